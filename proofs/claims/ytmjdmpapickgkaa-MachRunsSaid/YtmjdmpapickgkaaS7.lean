import Derived.Test.YtmjdmpapickgkaaS6
namespace Go.Proofs.Ytmjdmpapickgkaa
open Go.RowKit Go.Kk Go.Sort
variable {w0 w : World} {G C n : Nat} {d : Array Nat} {T : Nat → Int}

set_option maxRecDepth 100000 in
set_option maxHeartbeats 4000000 in
theorem sym2 (a m : Nat) (h : SX w0 w G d) (hc : CmpOk w0 G C n T) (hall : AllLt d n) (hab : a + 1 < m) (hb : m + 1 ≤ d.size) (hs : d.size ≤ 1000000) (hsrt : Srt T a m d) :
    Calls Try.prog 79 #[rowV G d.size, .int .i64 a, .int .i64 m, .int .i64 (m + 1 : Nat), cmpV C] w fun e w' => e = .returned (.tuple #[]) ∧ ∃ d', SX w0 w' G d' ∧ Merged T a (m + 1) d d' := by
  have H := Lib.hid h
  clear h
  have HC := Lib.hid hc
  clear hc
  obtain ⟨b, hbm⟩ : ∃ b, b = m + 1 := ⟨_, rfl⟩
  rw [← hbm] at hb ⊢
  have z1 : IntKind.i64.wrap ((b : Int) - (m : Int)) = 1 := by rw [IntWalk.i64_in _ (by omega)]; omega
  have z2 : IntKind.i64.wrap ((m : Int) - (a : Int)) = ((m - a : Nat) : Int) := by rw [IntWalk.i64_in _ (by omega)]; omega
  have z3 : (((m - a : Nat) : Int) == 1) = false := by simp; omega
  have HM := Lib.hid hbm
  clear hbm
  go_enter Try.func79, Try.ntmps79
  go_wp2
  go_loopw [14, 15] (fun vi vj wr => ∃ (i j : Nat), vi = .int .i64 i ∧ vj = .int .i64 j ∧ a ≤ i ∧ i ≤ j ∧ j ≤ m ∧ (∀ x, a ≤ x → x < i → T d[x]! ≤ T d[m]!) ∧ (∀ x, j ≤ x → x < m → T d[m]! < T d[x]!) ∧ Hid (SX w0 wr G d)) (fun vi vj _ => (intOf vj).toNat - (intOf vi).toNat)
  case atStart => exact ⟨a, m, rfl, rfl, by omega, by omega, by omega, fun x _ _ => by omega, fun x _ _ => by omega, H⟩
  case round =>
    clear H
    obtain ⟨i, j, rfl, rfl, hai, hij, hjm, hlo, hhi, HS⟩ := hrel
    have hsz1 : m < d.size := by have := HM.out; omega
    by_cases hlt : i < j
    · have y1 : IntKind.i64.wrap ((i : Int) + (j : Int)) = (i : Int) + (j : Int) := IntWalk.i64_in _ (by omega)
      have hlti : (i : Int) < (j : Int) := by omega
      obtain ⟨g, hg⟩ : ∃ g, g = (i + j) / 2 := ⟨_, rfl⟩
      have y2 : ((i : Int) + (j : Int)) / 2 = (g : Int) := by omega
      have hgi : i ≤ g := by omega
      have hgj : g < j := by omega
      clear hg
      have x1 : (g : Int) < (d.size : Int) := by omega
      have x2 : (m : Int) < (d.size : Int) := by omega
      have c1 := HS.out.c g (by omega)
      have c2 := HS.out.c m (by omega)
      have HCC := Lib.hid (fun q => HC.out (wr.drewN q) d[m]! d[g]! (HS.out.drewN q).fr (hall m (by omega)) (hall g (by omega)))
      clear hsz1
      by_cases hl : T d[m]! < T d[g]!
      · have hv : decide (cmpI (T d[m]!) (T d[g]!) < 0) = true := decide_eq_true (by rw [cmpI_neg]; exact hl)
        have hhi' : ∀ x, g ≤ x → x < m → T d[m]! < T d[x]! := fun x h1 h2 => by
          have := hsrt g x (by omega) h1 h2
          omega
        clear hl
        go_wp2
        go_quiet (first | (go_at_call 65; refine Calls.quiet_of (HCC.out _)))
        have S2 := Lib.hid (HS.out.drewN nq)
        generalize wr.drewN nq = w2 at *
        go_wp2
        go_roundw
        case rel => exact ⟨i, g, rfl, rfl, by omega, by omega, by omega, hlo, hhi', S2⟩
        case measure => simp [intOf]; omega
      · have hv : decide (cmpI (T d[m]!) (T d[g]!) < 0) = false := decide_eq_false (by rw [cmpI_neg]; exact hl)
        have hlo' : ∀ x, a ≤ x → x < g + 1 → T d[x]! ≤ T d[m]! := fun x h1 h2 => by
          have := hsrt x g h1 (by omega) (by omega)
          omega
        clear hl
        go_wp2
        go_quiet (first | (go_at_call 65; refine Calls.quiet_of (HCC.out _)))
        have S2 := Lib.hid (HS.out.drewN nq)
        generalize wr.drewN nq = w2 at *
        go_wp2
        go_roundw
        case rel => exact ⟨g + 1, j, by go_num, rfl, by omega, by omega, hjm, hlo', hhi, S2⟩
        case measure => simp [intOf]; omega
    · obtain rfl : i = j := by omega
      have hlti : ¬ (i : Int) < (i : Int) := by omega
      have HLO := Lib.hid hlo
      have HHI := Lib.hid hhi
      clear hlo hhi
      go_wp2
      go_loopw [17] (fun vk wr => ∃ (k : Nat) (dk : Array Nat), vk = .int .i64 k ∧ i ≤ k ∧ k ≤ m ∧ Hid (Down d a m k dk) ∧ Hid (SX w0 wr G dk)) (fun vk _ => (intOf vk).toNat)
      case atStart => exact ⟨m, d, rfl, by omega, by omega, Lib.hid (Down.start d a m), HS⟩
      case round =>
        clear HS
        obtain ⟨k, dk, rfl, hik, hkm, HU, HS⟩ := hrel
        have hsz := HU.out.size
        by_cases hlt : i < k
        · have hlti : (i : Int) < (k : Int) := by omega
          have y4 : IntKind.i64.wrap ((k : Int) - 1) = ((k - 1 : Nat) : Int) := by rw [IntWalk.i64_in _ (by omega)]; omega
          have x1 : (k : Int) < (d.size : Int) := by omega
          have x2 : ((k - 1 : Nat) : Int) < (d.size : Int) := by omega
          have c1 := HS.out.c k (by omega)
          have c2 := HS.out.c (k - 1) (by omega)
          have f1 := HS.out.f k
          have f2 := HS.out.f (k - 1)
          obtain ⟨u, c3⟩ := HS.out.c2 k (k - 1) (by omega) (by omega) (dk[k - 1]!)
          have S2 := Lib.hid (HS.out.swap k (k - 1))
          clear HS
          generalize hx : dk[k]! = x at *
          generalize hy : dk[k - 1]! = y at *
          clear hx hy
          go_wp2
          go_region
          go_wp2
          go_roundw
          case rel => exact ⟨k - 1, swp dk k (k - 1), rfl, by omega, by omega, Lib.hid (HU.out.step (by omega) hkm (by omega)), Lib.hid S2.out.drew⟩
          case measure => simp [intOf]; omega
        · obtain rfl : k = i := by omega
          have hlti : ¬ (k : Int) < (k : Int) := by omega
          go_wp2
          have hm := HM.out
          subst hm
          exact bodyPost_ret (results_none rfl _ _ _) rfl ⟨rfl, dk, HS.out, HU.out.merged hsrt (by omega) (by omega) HLO.out HHI.out⟩
end Go.Proofs.Ytmjdmpapickgkaa
