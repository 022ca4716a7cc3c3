import Derived.Test.YtmjdmpapickgkaaS10
namespace Go.Proofs.Ytmjdmpapickgkaa
open Go.RowKit Go.Kk Go.Sort
variable {w0 w : World} {G C n : Nat} {d : Array Nat} {T : Nat → Int}

set_option maxHeartbeats 4000000 in
theorem stable_any (N : Nat) (h : SX w0 w G d) (hc : CmpOk w0 G C n T) (hall : AllLt d n) (hN : d.size = N) (hs : N ≤ 60) :
    Calls Try.prog 76 #[rowV G N, .int .i64 N, cmpV C] w fun e w' => e = .returned (.tuple #[]) ∧ ∃ d', SX w0 w' G d' ∧ Merged T 0 N d d' := by
  have H := Lib.hid h
  have HC := Lib.hid hc
  clear h hc
  go_enter Try.func76, Try.ntmps76
  go_wp2
  go_loopw [7, 8] (fun va vb wr => ∃ (k : Nat) (dk : Array Nat), va = .int .i64 (20 * k : Nat) ∧ vb = .int .i64 (20 * k + 20 : Nat) ∧ 20 * k ≤ N ∧ Hid (SX w0 wr G dk) ∧ Hid (AllLt dk n) ∧ Hid (PermIn 0 N d dk) ∧ Hid (∀ i, i < k → Srt T (20 * i) (20 * i + 20) dk)) (fun va vb _ => N - (intOf va).toNat)
  case atStart => exact ⟨0, d, rfl, rfl, by omega, H, Lib.hid hall, Lib.hid (permIn_refl _ _ _), Lib.hid fun i hi => by omega⟩
  case round =>
    clear H
    obtain ⟨k, dk, rfl, rfl, hk, HS, HA, HP, HB⟩ := hrel
    have hz : dk.size = N := HP.out.1.trans hN
    by_cases hlt : 20 * k + 20 ≤ N
    · have hlti : ((20 * k + 20 : Nat) : Int) ≤ (N : Int) := by omega
      have y1 : IntKind.i64.wrap (((20 * k + 20 : Nat) : Int) + 20) = ((20 * (k + 1) + 20 : Nat) : Int) := by rw [IntWalk.i64_in _ (by omega)]; omega
      go_wp2_with (first | (go_at_call 78; refine (insertion_s (20 * k) (20 * k + 20) N HS.out HC.out HA.out hz (by omega) (by omega) (by omega)).mono ?_; rintro ex w1 ⟨rfl, d2, hS2, hM⟩))
      have A2 := Lib.hid (HA.out.perm hM.perm (by omega))
      have P2 := Lib.hid (permIn_trans _ _ _ _ _ HP.out (permIn_mono _ _ _ _ _ _ (Nat.zero_le _) hlt (by omega) hM.perm))
      have B2 : Hid (∀ i, i < k + 1 → Srt T (20 * i) (20 * i + 20) d2) := Lib.hid (fun i hi => by
        by_cases e : i = k
        · subst e; exact hM.srt
        · exact (HB.out i (by omega)).perm_out hM.perm (.inl (by omega)))
      go_roundw
      case rel => exact ⟨k + 1, d2, by go_num, by go_num, by omega, Lib.hid hS2, A2, P2, B2⟩
      case measure => simp [intOf]; omega
    · have hlti : ¬ ((20 * k + 20 : Nat) : Int) ≤ (N : Int) := by omega
      go_wp2_with (first | (go_at_call 78; refine (insertion_s (20 * k) N N HS.out HC.out HA.out hz (by omega) (by omega) (by omega)).mono ?_; rintro ex w1 ⟨rfl, d2, hS2, hM⟩))
      have A2 := Lib.hid (HA.out.perm hM.perm (by omega))
      have P2 := Lib.hid (permIn_trans _ _ _ _ _ HP.out (permIn_mono _ _ _ _ _ _ (Nat.zero_le _) (Nat.le_refl _) (by omega) hM.perm))
      have B2 : Hid (Blk T 20 N d2) := Lib.hid (fun i => by
        by_cases e : i < k
        · have := (HB.out i e).perm_out hM.perm (.inl (by omega))
          rwa [Nat.min_eq_left (by omega)]
        · by_cases e2 : i = k
          · subst e2; rw [Nat.min_eq_right (by omega)]; exact hM.srt
          · intro x y h1 h2 h3; omega)
      have S2 := Lib.hid hS2
      clear HS HA HP HB hM hS2
      go_loopw [6] (fun vs wr => ∃ (s : Nat) (ds : Array Nat), vs = .int .i64 s ∧ (s = 20 ∨ s = 40 ∨ s = 80) ∧ Hid (SX w0 wr G ds) ∧ Hid (AllLt ds n) ∧ Hid (PermIn 0 N d ds) ∧ Hid (Blk T s N ds)) (fun vs _ => 100 - (intOf vs).toNat)
      case atStart => exact ⟨20, d2, rfl, .inl rfl, S2, A2, P2, B2⟩
      case round =>
        clear S2 A2 P2 B2
        obtain ⟨s, ds, rfl, hss, HS, HA, HP, HB⟩ := hrel
        rcases hss with rfl | rfl | rfl
        · simp only [Int.cast_ofNat_Int]
          by_cases hsn : 20 < N
          · have i1 : (20 : Int) < (N : Int) := by omega
            go_wp2
            have HSN := Lib.hid hsn
            clear hsn i1
            obtain ⟨W, hW⟩ : ∃ x, x = wr := ⟨wr, rfl⟩
            subst hW
            go_loopw [7, 8] (fun va vb wr => ∃ (j : Nat) (dj : Array Nat), va = .int .i64 (40 * j : Nat) ∧ vb = .int .i64 (40 * j + 40 : Nat) ∧ 40 * j ≤ N ∧ Hid (SX w0 wr G dj) ∧ Hid (AllLt dj n) ∧ Hid (PermIn 0 N d dj) ∧ Hid (∀ i, i < j → Srt T (40 * i) (40 * i + 40) dj) ∧ Hid (∀ i, 2 * j ≤ i → Srt T (20 * i) (min (20 * i + 20) N) dj)) (fun va vb _ => N - (intOf va).toNat)
            case atStart => exact ⟨0, ds, by go_num, by go_num, by omega, HS, HA, HP, Lib.hid fun i hi => by omega, Lib.hid fun i _ => HB.out i⟩
            case round =>
              clear HS HA HP HB
              obtain ⟨j, dj, rfl, rfl, hj, HS, HA, HP, HB, HR⟩ := hrel
              have hz : dj.size = N := HP.out.1.trans hN
              by_cases hlt : 40 * j + 40 ≤ N
              · have hlti : ((40 * j + 40 : Nat) : Int) ≤ (N : Int) := by omega
                have y1 : IntKind.i64.wrap (((40 * j : Nat) : Int) + 20) = ((40 * j + 20 : Nat) : Int) := by rw [IntWalk.i64_in _ (by omega)]; omega
                have y2 : IntKind.i64.wrap (((40 * j + 40 : Nat) : Int) + 40) = ((40 * (j + 1) + 40 : Nat) : Int) := by rw [IntWalk.i64_in _ (by omega)]; omega
                have r1 : Srt T (40 * j) (40 * j + 20) dj := by have := HR.out (2 * j) (by omega); rw [Nat.min_eq_left (by omega)] at this; rwa [show 20 * (2 * j) = 40 * j by omega] at this
                have r2 : Srt T (40 * j + 20) (40 * j + 40) dj := by have := HR.out (2 * j + 1) (by omega); rw [Nat.min_eq_left (by omega)] at this; rwa [show 20 * (2 * j + 1) = 40 * j + 20 by omega, show 40 * j + 20 + 20 = 40 * j + 40 by omega] at this
                go_wp2_with (first | (go_at_call 79; refine (symMerge_any HC.out N (40 * j) (40 * j + 20) (40 * j + 40) dj (by omega) (by omega) (by omega) hlt hz HS.out HA.out r1 r2).mono ?_; rintro ex w1 ⟨rfl, d3, hS3, hM⟩))
                have A2 := Lib.hid (HA.out.perm hM.perm (by omega))
                have P2 := Lib.hid (permIn_trans _ _ _ _ _ HP.out (permIn_mono _ _ _ _ _ _ (Nat.zero_le _) hlt (by omega) hM.perm))
                have B2 : Hid (∀ i, i < j + 1 → Srt T (40 * i) (40 * i + 40) d3) := Lib.hid (fun i hi => by
                  by_cases e : i = j
                  · subst e; exact hM.srt
                  · exact (HB.out i (by omega)).perm_out hM.perm (.inl (by omega)))
                have R2 : Hid (∀ i, 2 * (j + 1) ≤ i → Srt T (20 * i) (min (20 * i + 20) N) d3) := Lib.hid (fun i hi => (HR.out i (by omega)).perm_out hM.perm (.inr (by omega)))
                go_roundw
                case rel => exact ⟨j + 1, d3, by go_num, by go_num, by omega, Lib.hid hS3, A2, P2, B2, R2⟩
                case measure => simp [intOf]; omega
              · have hlti : ¬ ((40 * j + 40 : Nat) : Int) ≤ (N : Int) := by omega
                have y1 : IntKind.i64.wrap (((40 * j : Nat) : Int) + 20) = ((40 * j + 20 : Nat) : Int) := by rw [IntWalk.i64_in _ (by omega)]; omega
                have r1 : Srt T (40 * j) (min (40 * j + 20) N) dj := by have := HR.out (2 * j) (by omega); rwa [show 20 * (2 * j) = 40 * j by omega] at this
                have r2 : Srt T (40 * j + 20) (min (40 * j + 40) N) dj := by have := HR.out (2 * j + 1) (by omega); rwa [show 20 * (2 * j + 1) = 40 * j + 20 by omega, show 40 * j + 20 + 20 = 40 * j + 40 by omega] at this
                by_cases hm : 40 * j + 20 < N
                · have hmi : ((40 * j + 20 : Nat) : Int) < (N : Int) := by omega
                  rw [Nat.min_eq_left (by omega)] at r1
                  rw [Nat.min_eq_right (by omega)] at r2
                  go_wp2_with (first | (go_at_call 79; refine (symMerge_any HC.out N (40 * j) (40 * j + 20) N dj (by omega) (by omega) hm (by omega) hz HS.out HA.out r1 r2).mono ?_; rintro ex w1 ⟨rfl, d3, hS3, hM⟩))
                  have A2 := Lib.hid (HA.out.perm hM.perm (by omega))
                  have P2 := Lib.hid (permIn_trans _ _ _ _ _ HP.out (permIn_mono _ _ _ _ _ _ (Nat.zero_le _) (Nat.le_refl _) (by omega) hM.perm))
                  have B2 : Hid (Blk T 40 N d3) := Lib.hid (fun i => by
                    by_cases e : i < j
                    · rw [Nat.min_eq_left (by omega)]; exact (HB.out i e).perm_out hM.perm (.inl (by omega))
                    · by_cases e2 : i = j
                      · subst e2; rw [Nat.min_eq_right (by omega)]; exact hM.srt
                      · intro x y h1 h2 h3; omega)
                  go_roundw
                  case rel => exact ⟨40, d3, by go_num, .inr (.inl rfl), Lib.hid hS3, A2, P2, B2⟩
                  case measure => simp [intOf]
                · have hmi : ¬ ((40 * j + 20 : Nat) : Int) < (N : Int) := by omega
                  have B2 : Hid (Blk T 40 N dj) := Lib.hid (fun i => by
                    by_cases e : i < j
                    · rw [Nat.min_eq_left (by omega)]; exact HB.out i e
                    · by_cases e2 : i = j
                      · subst e2; rw [Nat.min_eq_right (by omega)] at r1 ⊢; exact r1
                      · intro x y h1 h2 h3; omega)
                  go_wp2
                  go_roundw
                  case rel => exact ⟨40, dj, by go_num, .inr (.inl rfl), HS, HA, HP, B2⟩
                  case measure => simp [intOf]
          · have hni : ¬ (20 : Int) < (N : Int) := by omega
            go_wp2
            go_end0
            refine ⟨rfl, ds, HS.out, HP.out, ?_⟩
            have := HB.out 0
            rwa [Nat.mul_zero, Nat.zero_add, Nat.min_eq_right (by omega)] at this
        · simp only [Int.cast_ofNat_Int]
          by_cases hsn : 40 < N
          · have i1 : (40 : Int) < (N : Int) := by omega
            go_wp2
            have HSN := Lib.hid hsn
            clear hsn i1
            obtain ⟨W, hW⟩ : ∃ x, x = wr := ⟨wr, rfl⟩
            subst hW
            go_loopw [7, 8] (fun va vb wr => ∃ (j : Nat) (dj : Array Nat), va = .int .i64 (80 * j : Nat) ∧ vb = .int .i64 (80 * j + 80 : Nat) ∧ 80 * j ≤ N ∧ Hid (SX w0 wr G dj) ∧ Hid (AllLt dj n) ∧ Hid (PermIn 0 N d dj) ∧ Hid (∀ i, i < j → Srt T (80 * i) (80 * i + 80) dj) ∧ Hid (∀ i, 2 * j ≤ i → Srt T (40 * i) (min (40 * i + 40) N) dj)) (fun va vb _ => N - (intOf va).toNat)
            case atStart => exact ⟨0, ds, by go_num, by go_num, by omega, HS, HA, HP, Lib.hid fun i hi => by omega, Lib.hid fun i _ => HB.out i⟩
            case round =>
              clear HS HA HP HB
              obtain ⟨j, dj, rfl, rfl, hj, HS, HA, HP, HB, HR⟩ := hrel
              have hz : dj.size = N := HP.out.1.trans hN
              by_cases hlt : 80 * j + 80 ≤ N
              · omega
              · have hlti : ¬ ((80 * j + 80 : Nat) : Int) ≤ (N : Int) := by omega
                have y1 : IntKind.i64.wrap (((80 * j : Nat) : Int) + 40) = ((80 * j + 40 : Nat) : Int) := by rw [IntWalk.i64_in _ (by omega)]; omega
                have r1 : Srt T (80 * j) (min (80 * j + 40) N) dj := by have := HR.out (2 * j) (by omega); rwa [show 40 * (2 * j) = 80 * j by omega] at this
                have r2 : Srt T (80 * j + 40) (min (80 * j + 80) N) dj := by have := HR.out (2 * j + 1) (by omega); rwa [show 40 * (2 * j + 1) = 80 * j + 40 by omega, show 80 * j + 40 + 40 = 80 * j + 80 by omega] at this
                by_cases hm : 80 * j + 40 < N
                · have hmi : ((80 * j + 40 : Nat) : Int) < (N : Int) := by omega
                  rw [Nat.min_eq_left (by omega)] at r1
                  rw [Nat.min_eq_right (by omega)] at r2
                  go_wp2_with (first | (go_at_call 79; refine (symMerge_any HC.out N (80 * j) (80 * j + 40) N dj (by omega) (by omega) hm (by omega) hz HS.out HA.out r1 r2).mono ?_; rintro ex w1 ⟨rfl, d3, hS3, hM⟩))
                  have A2 := Lib.hid (HA.out.perm hM.perm (by omega))
                  have P2 := Lib.hid (permIn_trans _ _ _ _ _ HP.out (permIn_mono _ _ _ _ _ _ (Nat.zero_le _) (Nat.le_refl _) (by omega) hM.perm))
                  have B2 : Hid (Blk T 80 N d3) := Lib.hid (fun i => by
                    by_cases e : i < j
                    · rw [Nat.min_eq_left (by omega)]; exact (HB.out i e).perm_out hM.perm (.inl (by omega))
                    · by_cases e2 : i = j
                      · subst e2; rw [Nat.min_eq_right (by omega)]; exact hM.srt
                      · intro x y h1 h2 h3; omega)
                  go_roundw
                  case rel => exact ⟨80, d3, by go_num, .inr (.inr rfl), Lib.hid hS3, A2, P2, B2⟩
                  case measure => simp [intOf]
                · have hmi : ¬ ((80 * j + 40 : Nat) : Int) < (N : Int) := by omega
                  have B2 : Hid (Blk T 80 N dj) := Lib.hid (fun i => by
                    by_cases e : i < j
                    · rw [Nat.min_eq_left (by omega)]; exact HB.out i e
                    · by_cases e2 : i = j
                      · subst e2; rw [Nat.min_eq_right (by omega)] at r1 ⊢; exact r1
                      · intro x y h1 h2 h3; omega)
                  go_wp2
                  go_roundw
                  case rel => exact ⟨80, dj, by go_num, .inr (.inr rfl), HS, HA, HP, B2⟩
                  case measure => simp [intOf]
          · have hni : ¬ (40 : Int) < (N : Int) := by omega
            go_wp2
            go_end0
            refine ⟨rfl, ds, HS.out, HP.out, ?_⟩
            have := HB.out 0
            rwa [Nat.mul_zero, Nat.zero_add, Nat.min_eq_right (by omega)] at this
        · simp only [Int.cast_ofNat_Int]
          have hni : ¬ (80 : Int) < (N : Int) := by omega
          go_wp2
          go_end0
          refine ⟨rfl, ds, HS.out, HP.out, ?_⟩
          have := HB.out 0
          rwa [Nat.mul_zero, Nat.zero_add, Nat.min_eq_right (by omega)] at this
end Go.Proofs.Ytmjdmpapickgkaa
