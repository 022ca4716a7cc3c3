import Derived.Test.YtmjdmpapickgkaaZ4
import Derived.OwnWalk
namespace Go.Proofs.Ytmjdmpapickgkaa
open Go.RowKit Go.Kk Go.Sort
variable {w0 w : World} {G C n : Nat} {d : Array Nat} {T : Nat → Int}

theorem symBelow (hc : CmpOk w0 G C n T) (N : Nat) (hs : N ≤ 1000000) : ∀ k, SymBelow w0 G C n N T k
  | 0 => fun _ _ _ _ _ h => by omega
  | k + 1 => fun a m b d w hk ham hmb hb hz hS hA h1 h2 => by
    subst hz
    by_cases e1 : m = a + 1
    · subst e1
      exact sym1 a b hS hc hA hmb hb hs h2
    · by_cases e2 : b = m + 1
      · subst e2
        exact sym2 a m hS hc hA (by omega) hb hs h1
      · have ih : SymBelow w0 G C n d.size T (b - a) := fun a' m' b' d' w' hk' => symBelow hc d.size hs k a' m' b' d' w' (by omega)
        by_cases hM : (a + b) / 2 < m
        · exact sym3a a m b ((a + b) / 2) hS hc hA (by omega) (by omega) hb hs h1 h2 (by omega) (by omega) hM ih
        · exact sym3b a m b ((a + b) / 2) hS hc hA (by omega) (by omega) hb hs h1 h2 (by omega) (by omega) hM ih
theorem symMerge_any (hc : CmpOk w0 G C n T) (N a m b : Nat) (d : Array Nat) (hs : N ≤ 1000000) (ham : a < m) (hmb : m < b) (hb : b ≤ N) (hz : d.size = N) (hS : SX w0 w G d) (hA : AllLt d n) (h1 : Srt T a m d) (h2 : Srt T m b d) :
    Calls Try.prog 79 #[rowV G N, .int .i64 a, .int .i64 m, .int .i64 b, cmpV C] w fun e w' => e = .returned (.tuple #[]) ∧ ∃ d', SX w0 w' G d' ∧ Merged T a b d d' :=
  symBelow hc N hs (b - a + 1) a m b d w (by omega) ham hmb hb hz hS hA h1 h2
end Go.Proofs.Ytmjdmpapickgkaa

namespace Go.Proofs.Ytmjdmpapickgkaa
open Go.RowKit Go.Kk Go.Sort
variable {w0 w : World} {G C n : Nat} {d : Array Nat} {T : Nat → Int}

/-- blocks of s sorted -/
def Blk (T : Nat → Int) (s n : Nat) (d : Array Nat) : Prop := ∀ i, Srt T (s * i) (min (s * i + s) n) d
theorem Srt.perm_out {T : Nat → Int} {a b lo hi : Nat} {d d' : Array Nat} (h : Srt T a b d) (hp : PermIn lo hi d d') (ho : b ≤ lo ∨ hi ≤ a) : Srt T a b d' :=
  h.congr fun x h1 h2 => hp.2.1 x (by omega)
theorem insertion_s (a b N : Nat) (h : SX w0 w G d) (hc : CmpOk w0 G C n T) (hall : AllLt d n) (hN : d.size = N) (hab : a ≤ b) (hb : b ≤ N) (hs : N ≤ 1000000) :
    Calls Try.prog 78 #[rowV G N, .int .i64 a, .int .i64 b, cmpV C] w fun e w' => e = .returned (.tuple #[]) ∧ ∃ d', SX w0 w' G d' ∧ Merged T a b d d' := by
  subst hN
  refine (insertion_any a b h hc hall hab hb hs).mono ?_
  rintro e w' ⟨he, hS⟩
  have := insertionSort_holds (lt := ltT T) (swoT T) d a b hab hb
  exact ⟨he, _, hS, this.1, Srt.of_sorted this.2⟩
end Go.Proofs.Ytmjdmpapickgkaa

namespace Go.Proofs.Ytmjdmpapickgkaa
open Go.RowKit Go.Kk Go.Sort
variable {w0 w : World} {G C n : Nat} {d : Array Nat} {T : Nat → Int}

set_option maxHeartbeats 4000000 in
theorem stable_any (N : Nat) (h : SX w0 w G d) (hc : CmpOk w0 G C n T) (hall : AllLt d n) (hN : d.size = N) (hs : N ≤ 60) :
    Calls Try.prog 76 #[rowV G N, .int .i64 N, cmpV C] w fun e w' => e = .returned (.tuple #[]) ∧ ∃ d', SX w0 w' G d' ∧ Merged T 0 N d d' := by
  have H := Lib.hid h
  have HC := Lib.hid hc
  clear h hc
  go_enter Try.func76, Try.ntmps76
  go_wp2
  go_loopw [7, 8] (fun va vb wr => ∃ (k : Nat) (dk : Array Nat), va = .int .i64 (20 * k : Nat) ∧ vb = .int .i64 (20 * k + 20 : Nat) ∧ 20 * k ≤ N ∧ Hid (SX w0 wr G dk) ∧ Hid (AllLt dk n) ∧ Hid (PermIn 0 N d dk) ∧ Hid (∀ i, i < k → Srt T (20 * i) (20 * i + 20) dk)) (fun va vb _ => N - (intOf va).toNat)
  case atStart => exact ⟨0, d, rfl, rfl, by omega, H, Lib.hid hall, Lib.hid (permIn_refl _ _ _), Lib.hid fun i hi => by omega⟩
  case round =>
    clear H
    obtain ⟨k, dk, rfl, rfl, hk, HS, HA, HP, HB⟩ := hrel
    have hz : dk.size = N := HP.out.1.trans hN
    by_cases hlt : 20 * k + 20 ≤ N
    · have hlti : ((20 * k + 20 : Nat) : Int) ≤ (N : Int) := by omega
      have y1 : IntKind.i64.wrap (((20 * k + 20 : Nat) : Int) + 20) = ((20 * (k + 1) + 20 : Nat) : Int) := by rw [IntWalk.i64_in _ (by omega)]; omega
      go_wp2_with (first | (go_at_call 78; refine (insertion_s (20 * k) (20 * k + 20) N HS.out HC.out HA.out hz (by omega) (by omega) (by omega)).mono ?_; rintro ex w1 ⟨rfl, d2, hS2, hM⟩))
      have A2 := Lib.hid (HA.out.perm hM.perm (by omega))
      have P2 := Lib.hid (permIn_trans _ _ _ _ _ HP.out (permIn_mono _ _ _ _ _ _ (Nat.zero_le _) hlt (by omega) hM.perm))
      have B2 : Hid (∀ i, i < k + 1 → Srt T (20 * i) (20 * i + 20) d2) := Lib.hid (fun i hi => by
        by_cases e : i = k
        · subst e; exact hM.srt
        · exact (HB.out i (by omega)).perm_out hM.perm (.inl (by omega)))
      go_roundw
      case rel => exact ⟨k + 1, d2, by go_num, by go_num, by omega, Lib.hid hS2, A2, P2, B2⟩
      case measure => simp [intOf]; omega
    · have hlti : ¬ ((20 * k + 20 : Nat) : Int) ≤ (N : Int) := by omega
      go_wp2_with (first | (go_at_call 78; refine (insertion_s (20 * k) N N HS.out HC.out HA.out hz (by omega) (by omega) (by omega)).mono ?_; rintro ex w1 ⟨rfl, d2, hS2, hM⟩))
      have A2 := Lib.hid (HA.out.perm hM.perm (by omega))
      have P2 := Lib.hid (permIn_trans _ _ _ _ _ HP.out (permIn_mono _ _ _ _ _ _ (Nat.zero_le _) (Nat.le_refl _) (by omega) hM.perm))
      have B2 : Hid (Blk T 20 N d2) := Lib.hid (fun i => by
        by_cases e : i < k
        · have := (HB.out i e).perm_out hM.perm (.inl (by omega))
          rwa [Nat.min_eq_left (by omega)]
        · by_cases e2 : i = k
          · subst e2; rw [Nat.min_eq_right (by omega)]; exact hM.srt
          · intro x y h1 h2 h3; omega)
      have S2 := Lib.hid hS2
      clear HS HA HP HB hM hS2
      go_loopw [6] (fun vs wr => ∃ (s : Nat) (ds : Array Nat), vs = .int .i64 s ∧ (s = 20 ∨ s = 40 ∨ s = 80) ∧ Hid (SX w0 wr G ds) ∧ Hid (AllLt ds n) ∧ Hid (PermIn 0 N d ds) ∧ Hid (Blk T s N ds)) (fun vs _ => 100 - (intOf vs).toNat)
      case atStart => exact ⟨20, d2, rfl, .inl rfl, S2, A2, P2, B2⟩
      case round =>
        clear S2 A2 P2 B2
        obtain ⟨s, ds, rfl, hss, HS, HA, HP, HB⟩ := hrel
        rcases hss with rfl | rfl | rfl
        · simp only [Int.cast_ofNat_Int]
          by_cases hsn : 20 < N
          · have i1 : (20 : Int) < (N : Int) := by omega
            go_wp2
            have HSN := Lib.hid hsn
            clear hsn i1
            obtain ⟨W, hW⟩ : ∃ x, x = wr := ⟨wr, rfl⟩
            subst hW
            go_loopw [7, 8] (fun va vb wr => ∃ (j : Nat) (dj : Array Nat), va = .int .i64 (40 * j : Nat) ∧ vb = .int .i64 (40 * j + 40 : Nat) ∧ 40 * j ≤ N ∧ Hid (SX w0 wr G dj) ∧ Hid (AllLt dj n) ∧ Hid (PermIn 0 N d dj) ∧ Hid (∀ i, i < j → Srt T (40 * i) (40 * i + 40) dj) ∧ Hid (∀ i, 2 * j ≤ i → Srt T (20 * i) (min (20 * i + 20) N) dj)) (fun va vb _ => N - (intOf va).toNat)
            case atStart => exact ⟨0, ds, by go_num, by go_num, by omega, HS, HA, HP, Lib.hid fun i hi => by omega, Lib.hid fun i _ => HB.out i⟩
            case round =>
              clear HS HA HP HB
              obtain ⟨j, dj, rfl, rfl, hj, HS, HA, HP, HB, HR⟩ := hrel
              have hz : dj.size = N := HP.out.1.trans hN
              by_cases hlt : 40 * j + 40 ≤ N
              · have hlti : ((40 * j + 40 : Nat) : Int) ≤ (N : Int) := by omega
                have y1 : IntKind.i64.wrap (((40 * j : Nat) : Int) + 20) = ((40 * j + 20 : Nat) : Int) := by rw [IntWalk.i64_in _ (by omega)]; omega
                have y2 : IntKind.i64.wrap (((40 * j + 40 : Nat) : Int) + 40) = ((40 * (j + 1) + 40 : Nat) : Int) := by rw [IntWalk.i64_in _ (by omega)]; omega
                have r1 : Srt T (40 * j) (40 * j + 20) dj := by have := HR.out (2 * j) (by omega); rw [Nat.min_eq_left (by omega)] at this; rwa [show 20 * (2 * j) = 40 * j by omega] at this
                have r2 : Srt T (40 * j + 20) (40 * j + 40) dj := by have := HR.out (2 * j + 1) (by omega); rw [Nat.min_eq_left (by omega)] at this; rwa [show 20 * (2 * j + 1) = 40 * j + 20 by omega, show 40 * j + 20 + 20 = 40 * j + 40 by omega] at this
                go_wp2_with (first | (go_at_call 79; refine (symMerge_any HC.out N (40 * j) (40 * j + 20) (40 * j + 40) dj (by omega) (by omega) (by omega) hlt hz HS.out HA.out r1 r2).mono ?_; rintro ex w1 ⟨rfl, d3, hS3, hM⟩))
                have A2 := Lib.hid (HA.out.perm hM.perm (by omega))
                have P2 := Lib.hid (permIn_trans _ _ _ _ _ HP.out (permIn_mono _ _ _ _ _ _ (Nat.zero_le _) hlt (by omega) hM.perm))
                have B2 : Hid (∀ i, i < j + 1 → Srt T (40 * i) (40 * i + 40) d3) := Lib.hid (fun i hi => by
                  by_cases e : i = j
                  · subst e; exact hM.srt
                  · exact (HB.out i (by omega)).perm_out hM.perm (.inl (by omega)))
                have R2 : Hid (∀ i, 2 * (j + 1) ≤ i → Srt T (20 * i) (min (20 * i + 20) N) d3) := Lib.hid (fun i hi => (HR.out i (by omega)).perm_out hM.perm (.inr (by omega)))
                go_roundw
                case rel => exact ⟨j + 1, d3, by go_num, by go_num, by omega, Lib.hid hS3, A2, P2, B2, R2⟩
                case measure => simp [intOf]; omega
              · have hlti : ¬ ((40 * j + 40 : Nat) : Int) ≤ (N : Int) := by omega
                have y1 : IntKind.i64.wrap (((40 * j : Nat) : Int) + 20) = ((40 * j + 20 : Nat) : Int) := by rw [IntWalk.i64_in _ (by omega)]; omega
                have r1 : Srt T (40 * j) (min (40 * j + 20) N) dj := by have := HR.out (2 * j) (by omega); rwa [show 20 * (2 * j) = 40 * j by omega] at this
                have r2 : Srt T (40 * j + 20) (min (40 * j + 40) N) dj := by have := HR.out (2 * j + 1) (by omega); rwa [show 20 * (2 * j + 1) = 40 * j + 20 by omega, show 40 * j + 20 + 20 = 40 * j + 40 by omega] at this
                by_cases hm : 40 * j + 20 < N
                · have hmi : ((40 * j + 20 : Nat) : Int) < (N : Int) := by omega
                  rw [Nat.min_eq_left (by omega)] at r1
                  rw [Nat.min_eq_right (by omega)] at r2
                  go_wp2_with (first | (go_at_call 79; refine (symMerge_any HC.out N (40 * j) (40 * j + 20) N dj (by omega) (by omega) hm (by omega) hz HS.out HA.out r1 r2).mono ?_; rintro ex w1 ⟨rfl, d3, hS3, hM⟩))
                  have A2 := Lib.hid (HA.out.perm hM.perm (by omega))
                  have P2 := Lib.hid (permIn_trans _ _ _ _ _ HP.out (permIn_mono _ _ _ _ _ _ (Nat.zero_le _) (Nat.le_refl _) (by omega) hM.perm))
                  have B2 : Hid (Blk T 40 N d3) := Lib.hid (fun i => by
                    by_cases e : i < j
                    · rw [Nat.min_eq_left (by omega)]; exact (HB.out i e).perm_out hM.perm (.inl (by omega))
                    · by_cases e2 : i = j
                      · subst e2; rw [Nat.min_eq_right (by omega)]; exact hM.srt
                      · intro x y h1 h2 h3; omega)
                  go_roundw
                  case rel => exact ⟨40, d3, by go_num, .inr (.inl rfl), Lib.hid hS3, A2, P2, B2⟩
                  case measure => simp [intOf]
                · have hmi : ¬ ((40 * j + 20 : Nat) : Int) < (N : Int) := by omega
                  have B2 : Hid (Blk T 40 N dj) := Lib.hid (fun i => by
                    by_cases e : i < j
                    · rw [Nat.min_eq_left (by omega)]; exact HB.out i e
                    · by_cases e2 : i = j
                      · subst e2; rw [Nat.min_eq_right (by omega)] at r1 ⊢; exact r1
                      · intro x y h1 h2 h3; omega)
                  go_wp2
                  go_roundw
                  case rel => exact ⟨40, dj, by go_num, .inr (.inl rfl), HS, HA, HP, B2⟩
                  case measure => simp [intOf]
          · have hni : ¬ (20 : Int) < (N : Int) := by omega
            go_wp2
            go_end0
            refine ⟨rfl, ds, HS.out, HP.out, ?_⟩
            have := HB.out 0
            rwa [Nat.mul_zero, Nat.zero_add, Nat.min_eq_right (by omega)] at this
        · simp only [Int.cast_ofNat_Int]
          by_cases hsn : 40 < N
          · have i1 : (40 : Int) < (N : Int) := by omega
            go_wp2
            have HSN := Lib.hid hsn
            clear hsn i1
            obtain ⟨W, hW⟩ : ∃ x, x = wr := ⟨wr, rfl⟩
            subst hW
            go_loopw [7, 8] (fun va vb wr => ∃ (j : Nat) (dj : Array Nat), va = .int .i64 (80 * j : Nat) ∧ vb = .int .i64 (80 * j + 80 : Nat) ∧ 80 * j ≤ N ∧ Hid (SX w0 wr G dj) ∧ Hid (AllLt dj n) ∧ Hid (PermIn 0 N d dj) ∧ Hid (∀ i, i < j → Srt T (80 * i) (80 * i + 80) dj) ∧ Hid (∀ i, 2 * j ≤ i → Srt T (40 * i) (min (40 * i + 40) N) dj)) (fun va vb _ => N - (intOf va).toNat)
            case atStart => exact ⟨0, ds, by go_num, by go_num, by omega, HS, HA, HP, Lib.hid fun i hi => by omega, Lib.hid fun i _ => HB.out i⟩
            case round =>
              clear HS HA HP HB
              obtain ⟨j, dj, rfl, rfl, hj, HS, HA, HP, HB, HR⟩ := hrel
              have hz : dj.size = N := HP.out.1.trans hN
              by_cases hlt : 80 * j + 80 ≤ N
              · omega
              · have hlti : ¬ ((80 * j + 80 : Nat) : Int) ≤ (N : Int) := by omega
                have y1 : IntKind.i64.wrap (((80 * j : Nat) : Int) + 40) = ((80 * j + 40 : Nat) : Int) := by rw [IntWalk.i64_in _ (by omega)]; omega
                have r1 : Srt T (80 * j) (min (80 * j + 40) N) dj := by have := HR.out (2 * j) (by omega); rwa [show 40 * (2 * j) = 80 * j by omega] at this
                have r2 : Srt T (80 * j + 40) (min (80 * j + 80) N) dj := by have := HR.out (2 * j + 1) (by omega); rwa [show 40 * (2 * j + 1) = 80 * j + 40 by omega, show 80 * j + 40 + 40 = 80 * j + 80 by omega] at this
                by_cases hm : 80 * j + 40 < N
                · have hmi : ((80 * j + 40 : Nat) : Int) < (N : Int) := by omega
                  rw [Nat.min_eq_left (by omega)] at r1
                  rw [Nat.min_eq_right (by omega)] at r2
                  go_wp2_with (first | (go_at_call 79; refine (symMerge_any HC.out N (80 * j) (80 * j + 40) N dj (by omega) (by omega) hm (by omega) hz HS.out HA.out r1 r2).mono ?_; rintro ex w1 ⟨rfl, d3, hS3, hM⟩))
                  have A2 := Lib.hid (HA.out.perm hM.perm (by omega))
                  have P2 := Lib.hid (permIn_trans _ _ _ _ _ HP.out (permIn_mono _ _ _ _ _ _ (Nat.zero_le _) (Nat.le_refl _) (by omega) hM.perm))
                  have B2 : Hid (Blk T 80 N d3) := Lib.hid (fun i => by
                    by_cases e : i < j
                    · rw [Nat.min_eq_left (by omega)]; exact (HB.out i e).perm_out hM.perm (.inl (by omega))
                    · by_cases e2 : i = j
                      · subst e2; rw [Nat.min_eq_right (by omega)]; exact hM.srt
                      · intro x y h1 h2 h3; omega)
                  go_roundw
                  case rel => exact ⟨80, d3, by go_num, .inr (.inr rfl), Lib.hid hS3, A2, P2, B2⟩
                  case measure => simp [intOf]
                · have hmi : ¬ ((80 * j + 40 : Nat) : Int) < (N : Int) := by omega
                  have B2 : Hid (Blk T 80 N dj) := Lib.hid (fun i => by
                    by_cases e : i < j
                    · rw [Nat.min_eq_left (by omega)]; exact HB.out i e
                    · by_cases e2 : i = j
                      · subst e2; rw [Nat.min_eq_right (by omega)] at r1 ⊢; exact r1
                      · intro x y h1 h2 h3; omega)
                  go_wp2
                  go_roundw
                  case rel => exact ⟨80, dj, by go_num, .inr (.inr rfl), HS, HA, HP, B2⟩
                  case measure => simp [intOf]
          · have hni : ¬ (40 : Int) < (N : Int) := by omega
            go_wp2
            go_end0
            refine ⟨rfl, ds, HS.out, HP.out, ?_⟩
            have := HB.out 0
            rwa [Nat.mul_zero, Nat.zero_add, Nat.min_eq_right (by omega)] at this
        · simp only [Int.cast_ofNat_Int]
          have hni : ¬ (80 : Int) < (N : Int) := by omega
          go_wp2
          go_end0
          refine ⟨rfl, ds, HS.out, HP.out, ?_⟩
          have := HB.out 0
          rwa [Nat.mul_zero, Nat.zero_add, Nat.min_eq_right (by omega)] at this
end Go.Proofs.Ytmjdmpapickgkaa

namespace Go.Proofs.Ytmjdmpapickgkaa
open Go.RowKit Go.Kk Go.Sort
variable {w0 w : World} {G C n : Nat} {d : Array Nat} {T : Nat → Int}
set_option maxHeartbeats 400000 in
theorem sortStable_any (N : Nat) (h : SX w0 w G d) (hc : CmpOk w0 G C n T) (hall : AllLt d n) (hN : d.size = N) (hs : N ≤ 60) :
    Calls Try.prog 64 #[rowV G N, cmpV C] w fun e w' => e = .returned (.tuple #[]) ∧ ∃ d', SX w0 w' G d' ∧ Merged T 0 N d d' := by
  have HX := Lib.hid (stable_any N h hc hall hN hs)
  clear h hc
  go_enter Try.func64, Try.ntmps64
  go_wp2_with (first | (go_at_call 76; refine HX.out.mono ?_; rintro ex w1 ⟨rfl, d3, hS3, hM⟩))
  go_end0
  exact ⟨rfl, d3, hS3, hM⟩
end Go.Proofs.Ytmjdmpapickgkaa

namespace Go.Proofs.Ytmjdmpapickgkaa
open Go.RowKit Go.Kk Go.Sort

theorem cmpOk_of (p : List Opn) (base : Option Addr) (cp C G : Nat) (wb w0 : World) (hb : Below wb.heap.size wb w0) (hG : wb.heap.size ≤ G) (hl : IsProg wb (.slice base p.length cp) p) (hC : wb.cell? ⟨C, 0, none⟩ = some (.slice base p.length cp)) (hlen : Narrow p) : CmpOk w0 G C p.length (timeOf p) := by
  intro w x y hf hx hy
  have h2 : Below wb.heap.size wb w := hb.trans (hf.below hb.size (fun k hk => by omega))
  exact closure65 p base cp C w (hl.keeps (Keeps.of_below h2)) (Keeps.of_below h2 _ _ hC) hlen x y hx hy

theorem arr_of_made {w : World} {B g n : Nat} {xs : List Value} (h : w.ownsRow B 3 1 (.slice (some ⟨g, 0, none⟩) n n) n xs) (hx : xs = (Array.replicate n (Value.int .i64 0)).toList) : B ≤ g ∧ Arr w g (Array.replicate n 0) := by
  obtain ⟨hl, ⟨h0, _⟩ | ⟨g', cap, cur, hv, hb, hg, hnc, hcm, hs, ht⟩⟩ := h
  · cases h0
  · injection hv with h1 _ h3
    injection h1 with h1
    injection h1 with h1
    subst h1 h3
    refine ⟨hb, ?_⟩
    unfold Arr
    rw [hg]
    have : cur = (Array.replicate n (0 : Nat)).map fun (x : Nat) => Value.int .i64 (x : Int) := by
      apply Array.toList_inj.1
      rw [List.take_of_length_le (by simp [hs])] at ht
      rw [ht, hx]
      simp
    rw [this]

/-- the places, in order of time -/
structure Order (p : List Opn) (d : Array Nat) : Prop where
  perm : d.toList.Perm (List.range p.length)
  srt : Srt (timeOf p) 0 p.length d

set_option maxHeartbeats 1000000 in
theorem ordered_any (p : List Opn) (v : Value) (w : World) (hl : IsProg w v p) (hlen : Narrow p) (h60 : p.length ≤ 60) :
    Calls Try.prog 51 #[v] w fun e w' => ∃ G d, e = .returned (rowV G p.length) ∧ w.heap.size ≤ G ∧ Arr w' G d ∧ Order p d ∧ Below w.heap.size w w' := by
  obtain ⟨bs, cq, hval⟩ := hl.1.shape
  subst hval
  obtain ⟨i0, hi, hz0, hz1, hz2⟩ := info_parts (show (Try.prog.info? 3).map (fun i => (i.zero, i.size, i.bytes)) = some (some (.int .i64 0), 1, 8) by kernel_rfl)
  have hu : Try.prog.underlying 25 = some (.slice 3) := by kernel_rfl
  have HL := Lib.hid hl
  clear hl
  go_enter Try.func51, Try.ntmps51
  go_wp2_with (first | (at_make; refine wpList_make_full _ rfl _ _ 25 rfl (w.heap.size + 1) 3 i0 (.int .i64 0) 1 hu hi hz0 hz1 .i64 .i64 _ _ p.length rfl rfl rfl rfl (by rw [hz2]; omega) (by unfold maxLen; omega) (by simp) ?_; intro w1 hown hgrow))
  obtain ⟨hG, hA0⟩ := arr_of_made hown (by simp only [madeCells, Value.cells]; apply List.ext_getElem <;> simp [Nat.mod_one])
  have hS : Hid (SX w1 w1 (w.heap.size + 1) (Array.replicate p.length 0)) := Lib.hid ⟨by simpa using hA0, Fr.refl _ _⟩
  have hbw : Below w.heap.size w w1 := (below_alloc w (.cells #[.slice bs p.length cq] 22)).grown hgrow (by simp) (by simp)
  have hsz1 : w.heap.size + 1 ≤ w1.heap.size := by have := hgrow.size; simpa using this
  have hC := Lib.hid (cmpOk_of p bs cq w.heap.size (w.heap.size + 1) (w.alloc (.cells #[.slice bs p.length cq] 22)) w1 ((Below.refl _ _).grown hgrow (Nat.le_refl _) (by simp)) (by simp) (HL.out.keeps (Keeps.of_below (below_alloc w _))) (newA w _ _ _ 0 _ rfl rfl) hlen)
  clear hown hgrow hG hA0
  go_loopw [10] (fun i wr => ∃ (k : Nat) (dk : Array Nat), k ≤ p.length ∧ i = .int .i64 k ∧ dk.size = p.length ∧ Hid (SX w1 wr (w.heap.size + 1) dk) ∧ Hid (∀ j, j < k → dk[j]! = j)) (fun i _ => p.length - (intOf i).toNat)
  case atStart => exact ⟨0, _, by omega, rfl, by simp, hS, Lib.hid fun j hj => by omega⟩
  case round =>
    clear hS
    obtain ⟨k, dk, hk, rfl, hsz, HS, HV⟩ := hrel
    by_cases hlt : k < p.length
    · have S := HS.out
      have c1 := S.c k (by omega)
      have f1 := S.f k
      have S2 := Lib.hid (S.set k k)
      have V2 : Hid (∀ j, j < k + 1 → (dk.setIfInBounds k k)[j]! = j) := Lib.hid fun j hj => by
        by_cases e : j = k
        · subst e; simp [hsz, hlt]
        · have := HV.out j (by omega)
          simp only [getElem!_def, Array.getElem?_setIfInBounds] at this ⊢
          rw [if_neg (by omega)]
          exact this
      have hsz2 : (dk.setIfInBounds k k).size = p.length := by simpa using hsz
      clear S HS HV hsz
      go_wp2
      go_roundw
      case rel => exact ⟨k + 1, _, by omega, by go_num, hsz2, S2, V2⟩
      case measure => simp [intOf]; omega
    · obtain rfl : k = p.length := by omega
      have hall : Hid (AllLt dk p.length) := Lib.hid fun i hi => by rw [HV.out i (by omega)]; omega
      have HZ := Lib.hid hsz
      clear hsz
      go_wp2_with (first | (go_at_call 64; refine (sortStable_any p.length HS.out hC.out hall.out HZ.out h60).mono ?_; rintro e w2 ⟨rfl, d', hS', hM⟩))
      go_ret
      have hd' : d'.size = p.length := hM.perm.1.trans HZ.out
      have hdk : dk.toList = List.range p.length := by
        apply List.ext_getElem
        · simp [HZ.out]
        · intro i h1 h2
          have := HV.out i (by simpa using h2)
          have h3 : i < dk.size := by simpa using h1
          simp only [h3, getElem!_pos] at this
          simpa using this
      refine ⟨w.heap.size + 1, d', rfl, by omega, hS'.arr, ⟨?_, hM.srt⟩, ?_⟩
      · have := hM.perm.2.2
        rw [← hdk]
        have h1 : d'.toList.take p.length = d'.toList := List.take_of_length_le (by simp [hd'])
        have h2 : dk.toList.take p.length = dk.toList := List.take_of_length_le (by simp [HZ.out])
        simpa [h1, h2] using this
      · exact hbw.trans (hS'.fr.below hbw.size (fun k hk => by omega))
end Go.Proofs.Ytmjdmpapickgkaa
