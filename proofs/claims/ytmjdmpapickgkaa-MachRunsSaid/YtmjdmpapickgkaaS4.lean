import Derived.Test.YtmjdmpapickgkaaS3
import Derived.Sort.WalkA
namespace Go.Proofs.Ytmjdmpapickgkaa
open Go.RowKit Go.Kk Go.Sort

/-- cmp's contract: in every world of the sort's -/
def CmpOk (w0 : World) (G C n : Nat) (T : Nat → Int) : Prop :=
  ∀ (w : World) (x y : Nat), Fr (· = G) w0 w → x < n → y < n → Calls Try.prog 65 #[.int .i64 x, .int .i64 y, .pointer (some ⟨C, 0, none⟩)] w fun e w' => e = .returned (.int .i64 (cmpI (T x) (T y))) ∧ ∃ q, w' = w.drewN q
abbrev cmpV (C : Nat) : Value := .func (.func 65) #[] #[.pointer (some ⟨C, 0, none⟩)]
/-- less, by T -/
def ltT (T : Nat → Int) (x y : Nat) : Bool := decide (T x < T y)
theorem swoT (T : Nat → Int) : SWO (ltT T) where
  irrefl x := by simp [ltT]
  trans x y z h1 h2 := by simp [ltT] at *; omega
  ntrans x y z h1 h2 := by simp [ltT] at *; omega
def AllLt (d : Array Nat) (n : Nat) : Prop := ∀ i, i < d.size → d[i]! < n
theorem AllLt.swp {d : Array Nat} {n : Nat} (h : AllLt d n) {i j : Nat} (hi : i < d.size) (hj : j < d.size) : AllLt (swp d i j) n := by
  intro k hk
  rw [size_swp] at hk
  rw [swp_get d hi hj]
  split
  · exact h i hi
  · split
    · exact h j hj
    · exact h k hk
theorem AllLt.perm {d d' : Array Nat} {n a b : Nat} (h : AllLt d n) (hp : PermIn a b d d') (hb : b ≤ d.size) : AllLt d' n := by
  intro k hk
  rw [hp.1] at hk
  by_cases hab : k < a ∨ b ≤ k
  · rw [hp.2.1 k hab]; exact h k hk
  · exact permIn_all d d' a b (· < n) hb hp (fun i _ hi => h i (by omega)) k (by omega) (by omega)
theorem cmpI_neg (x y : Int) : (cmpI x y < 0) = (x < y) := by
  unfold cmpI
  apply propext
  split
  · simp_all
  · split <;> simp_all

variable {w0 w : World} {G C n : Nat} {d : Array Nat} {T : Nat → Int}
set_option maxHeartbeats 2000000 in
theorem insertion_any (a b : Nat) (h : SX w0 w G d) (hc : CmpOk w0 G C n T) (hall : AllLt d n) (hab : a ≤ b) (hb : b ≤ d.size) (hs : d.size ≤ 1000000) :
    Calls Try.prog 78 #[rowV G d.size, .int .i64 a, .int .i64 b, cmpV C] w fun e w' => e = .returned (.tuple #[]) ∧ SX w0 w' G (insertionSort (ltT T) d a b) := by
  have H := Lib.hid h
  clear h
  have HC := Lib.hid hc
  clear hc
  go_enter Try.func78, Try.ntmps78
  go_wp2
  go_loopw [8] (fun i wr => ∃ (k : Nat) (dk : Array Nat), i = .int .i64 k ∧ a < k ∧ k ≤ b + 1 ∧ dk.size = d.size ∧ Hid (SX w0 wr G dk) ∧ Hid (AllLt dk n) ∧ Hid (insOuter (ltT T) a b k dk = insOuter (ltT T) a b (a + 1) d)) (fun i _ => b + 1 - (intOf i).toNat)
  case atStart => exact ⟨a + 1, d, by go_num, by omega, by omega, rfl, H, Lib.hid hall, Lib.hid rfl⟩
  case round =>
    clear H
    obtain ⟨k, dk, rfl, hak, hkb, hsz, HS, HA, HO⟩ := hrel
    by_cases hlt : k < b
    · have hki : (k : Int) < (b : Int) := by omega
      go_wp2
      obtain ⟨W, hW⟩ : ∃ x, x = wr := ⟨wr, rfl⟩
      subst hW
      go_loopw [9] (fun i wr => ∃ (j : Nat) (dj : Array Nat), i = .int .i64 j ∧ a ≤ j ∧ j ≤ k ∧ dj.size = d.size ∧ Hid (SX w0 wr G dj) ∧ Hid (AllLt dj n) ∧ Hid (insInner (ltT T) a j dj = insInner (ltT T) a k dk)) (fun i _ => (intOf i).toNat)
      case atStart => exact ⟨k, dk, rfl, by omega, by omega, hsz, HS, HA, Lib.hid rfl⟩
      case round =>
        clear HS HA
        obtain ⟨j, dj, rfl, haj, hjk, hsj, HS, HA, HI⟩ := hrel
        have out : (j ≤ a ∨ ltT T dj[j]! dj[j - 1]! = false) → Hid (insOuter (ltT T) a b (k + 1) dj = insOuter (ltT T) a b (a + 1) d) := fun hs => by
          show _ = _
          rw [← HO.out, insOuter_go _ _ _ _ _ hlt, ← HI.out, insInner_stop _ _ _ _ hs]
        have OUT := Lib.hid out
        clear out
        by_cases hja : a < j
        · have y1 : IntKind.i64.wrap ((j : Int) - 1) = ((j - 1 : Nat) : Int) := by rw [IntWalk.i64_in _ (by omega)]; omega
          have hd1 : decide ((a : Int) < (j : Int)) = true := decide_eq_true (by omega)
          have hd2 : (a : Int) < (j : Int) := by omega
          have x1 : (j : Int) < (d.size : Int) := by omega
          have x2 : ((j - 1 : Nat) : Int) < (d.size : Int) := by omega
          have c1 := HS.out.c j (by omega)
          have c2 := HS.out.c (j - 1) (by omega)
          have l1 := HA.out j (by omega)
          have l2 := HA.out (j - 1) (by omega)
          have hcc := fun q => HC.out (wr.drewN q) dj[j]! dj[j - 1]! (HS.out.drewN q).fr l1 l2
          have HCC := Lib.hid hcc
          clear hcc
          by_cases hl : T dj[j]! < T dj[j - 1]!
          · have hv : decide (cmpI (T dj[j]!) (T dj[j - 1]!) < 0) = true := decide_eq_true (by rw [cmpI_neg]; exact hl)
            go_wp2
            go_quiet (first | (go_at_call 65; refine Calls.quiet_of (HCC.out _)))
            have SN := HS.out.drewN nq
            have S2 := Lib.hid (SN.swap j (j - 1))
            have c1 := SN.c j (by omega)
            have c2 := SN.c (j - 1) (by omega)
            have f1 := SN.f j
            have f2 := SN.f (j - 1)
            obtain ⟨u, c3⟩ := SN.c2 j (j - 1) (by omega) (by omega) (dj[j - 1]!)
            have A2 := Lib.hid (HA.out.swp (i := j) (j := j - 1) (by omega) (by omega))
            have I2 := Lib.hid ((insInner_go (ltT T) a j dj hja (by simp [ltT, hl])).symm.trans HI.out)
            clear SN HCC HS HA HI OUT hl hv l1 l2
            generalize wr.drewN nq = w2 at *
            have hg1 : dj[j]! = dj[j]! := rfl
            go_wp2
            go_region
            go_wp2
            go_roundw
            case rel => exact ⟨j - 1, swp dj j (j - 1), rfl, by omega, by omega, by rw [size_swp]; exact hsj, Lib.hid S2.out.drew, A2, I2⟩
            case measure => simp [intOf]; omega
          · have hv : decide (cmpI (T dj[j]!) (T dj[j - 1]!) < 0) = false := decide_eq_false (by rw [cmpI_neg]; exact hl)
            go_wp2
            go_quiet (first | (go_at_call 65; refine Calls.quiet_of (HCC.out _)))
            have S2 := Lib.hid (HS.out.drewN nq)
            generalize wr.drewN nq = w2 at *
            go_wp2
            go_roundw
            case rel => exact ⟨k + 1, dj, by go_num, by omega, by omega, hsj, S2, HA, OUT.out (.inr (by simpa [ltT] using hl))⟩
            case measure => simp [intOf]; omega
        · have hd1 : decide ((a : Int) < (j : Int)) = false := decide_eq_false (by omega)
          have hd2 : ¬ (a : Int) < (j : Int) := by omega
          go_wp2
          go_quiet (fail)
          have S2 := Lib.hid (HS.out.drewN nq)
          generalize wr.drewN nq = w2 at *
          go_wp2
          go_roundw
          case rel => exact ⟨k + 1, dj, by go_num, by omega, by omega, hsj, S2, HA, OUT.out (.inl (by omega))⟩
          case measure => simp [intOf]; omega
    · have hki : ¬ (k : Int) < (b : Int) := by omega
      go_wp2
      go_end0
      refine ⟨rfl, ?_⟩
      unfold insertionSort
      rw [← HO.out, insOuter_stop _ _ _ _ _ hlt]
      exact HS.out
end Go.Proofs.Ytmjdmpapickgkaa
