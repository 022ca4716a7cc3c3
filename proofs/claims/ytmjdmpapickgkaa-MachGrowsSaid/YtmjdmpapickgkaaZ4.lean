import Derived.Test.YtmjdmpapickgkaaZ3
namespace Go.Proofs.Ytmjdmpapickgkaa
open Go.RowKit Go.Kk Go.Sort
variable {w0 w : World} {G C n : Nat} {d : Array Nat} {T : Nat → Int}

/-- symMerge below a length -/
def SymBelow (w0 : World) (G C n N : Nat) (T : Nat → Int) (k : Nat) : Prop :=
  ∀ (a m b : Nat) (d : Array Nat) (w : World), b - a < k → a < m → m < b → b ≤ N → d.size = N → SX w0 w G d → AllLt d n → Srt T a m d → Srt T m b d →
    Calls Try.prog 79 #[rowV G N, .int .i64 a, .int .i64 m, .int .i64 b, cmpV C] w fun e w' => e = .returned (.tuple #[]) ∧ ∃ d', SX w0 w' G d' ∧ Merged T a b d d'

set_option maxRecDepth 100000 in
set_option maxHeartbeats 16000000 in
theorem sym3a (a m b M : Nat) (h : SX w0 w G d) (hc : CmpOk w0 G C n T) (hall : AllLt d n) (ham : a + 1 < m) (hmb : m + 1 < b) (hb : b ≤ d.size) (hs : d.size ≤ 1000000) (hs1 : Srt T a m d) (hs2 : Srt T m b d)
    (hM1 : 2 * M ≤ a + b) (hM2 : a + b ≤ 2 * M + 1) (hcase : M < m) (ih : SymBelow w0 G C n d.size T (b - a)) :
    Calls Try.prog 79 #[rowV G d.size, .int .i64 a, .int .i64 m, .int .i64 b, cmpV C] w fun e w' => e = .returned (.tuple #[]) ∧ ∃ d', SX w0 w' G d' ∧ Merged T a b d d' := by
  have H := Lib.hid h
  have HC := Lib.hid hc
  have IH := Lib.hid ih
  have HS1 := Lib.hid hs1
  have HS2 := Lib.hid hs2
  clear h hc ih hs1 hs2
  have z1 : IntKind.i64.wrap ((b : Int) - (m : Int)) = ((b - m : Nat) : Int) := by rw [IntWalk.i64_in _ (by omega)]; omega
  have z2 : IntKind.i64.wrap ((m : Int) - (a : Int)) = ((m - a : Nat) : Int) := by rw [IntWalk.i64_in _ (by omega)]; omega
  have z3 : (((m - a : Nat) : Int) == 1) = false := by simp; omega
  have z4 : (((b - m : Nat) : Int) == 1) = false := by simp; omega
  have z5 : IntKind.i64.wrap ((a : Int) + (b : Int)) = (a : Int) + (b : Int) := IntWalk.i64_in _ (by omega)
  have z6 : ((a : Int) + (b : Int)) / 2 = (M : Int) := by omega
  obtain ⟨N, hN⟩ : ∃ N, N = M + m := ⟨_, rfl⟩
  have z7 : IntKind.i64.wrap ((M : Int) + (m : Int)) = (N : Int) := by rw [IntWalk.i64_in _ (by omega)]; omega
  have z8 : IntKind.i64.wrap ((N : Int) - 1) = ((N - 1 : Nat) : Int) := by rw [IntWalk.i64_in _ (by omega)]; omega
  have z9 : IntKind.i64.wrap ((N : Int) - (b : Int)) = ((N - b : Nat) : Int) := by rw [IntWalk.i64_in _ (by omega)]; omega
  have zc : (M : Int) < (m : Int) := by omega
  have hzd : d.size = d.size := rfl
  have HN := Lib.hid hN
  clear hN
  go_enter Try.func79, Try.ntmps79
  go_wp2
  go_loopw [20, 21] (fun vi vj wr => ∃ (s r : Nat), vi = .int .i64 s ∧ vj = .int .i64 r ∧ (N - b) ≤ s ∧ s ≤ r ∧ r ≤ M ∧ Hid (s = (N - b) ∨ T d[s - 1]! ≤ T d[N - s]!) ∧ Hid (r = M ∨ T d[N - 1 - r]! < T d[r]!) ∧ Hid (SX w0 wr G d)) (fun vi vj _ => (intOf vj).toNat - (intOf vi).toNat)
  case atStart => exact ⟨(N - b), M, rfl, rfl, by omega, by have := HN.out; omega, by omega, Lib.hid (.inl rfl), Lib.hid (.inl rfl), H⟩
  case round =>
    clear H
    obtain ⟨s, r, rfl, rfl, hls, hsr, hrh, HLO, HHI, HS⟩ := hrel
    by_cases hlt : s < r
    · have y1 : IntKind.i64.wrap ((s : Int) + (r : Int)) = (s : Int) + (r : Int) := IntWalk.i64_in _ (by omega)
      have hlti : (s : Int) < (r : Int) := by omega
      obtain ⟨c, hc⟩ : ∃ c, c = (s + r) / 2 := ⟨_, rfl⟩
      have y2 : ((s : Int) + (r : Int)) / 2 = (c : Int) := by omega
      have hci : s ≤ c := by omega
      have hcj : c < r := by omega
      clear hc
      have hN := HN.out
      have y3 : IntKind.i64.wrap (((N - 1 : Nat) : Int) - (c : Int)) = ((N - 1 - c : Nat) : Int) := by rw [IntWalk.i64_in _ (by omega)]; omega
      have x1 : (c : Int) < (d.size : Int) := by omega
      have x2 : ((N - 1 - c : Nat) : Int) < (d.size : Int) := by omega
      have c1 := HS.out.c c (by omega)
      have c2 := HS.out.c (N - 1 - c) (by omega)
      have HCC := Lib.hid (fun q => HC.out (wr.drewN q) d[N - 1 - c]! d[c]! (HS.out.drewN q).fr (hall (N - 1 - c) (by omega)) (hall c (by omega)))
      clear hN
      by_cases hl : T d[N - 1 - c]! < T d[c]!
      · have hv : decide (cmpI (T d[N - 1 - c]!) (T d[c]!) < 0) = true := decide_eq_true (by rw [cmpI_neg]; exact hl)
        have HHI2 : Hid (c = M ∨ T d[N - 1 - c]! < T d[c]!) := Lib.hid (.inr hl)
        clear hl
        go_wp2
        go_quiet (first | (go_at_call 65; refine Calls.quiet_of (HCC.out _)))
        have S2 := Lib.hid (HS.out.drewN nq)
        generalize wr.drewN nq = w2 at *
        go_wp2
        go_roundw
        case rel => exact ⟨s, c, rfl, rfl, by omega, by omega, by omega, HLO, HHI2, S2⟩
        case measure => simp [intOf]; omega
      · have hv : decide (cmpI (T d[N - 1 - c]!) (T d[c]!) < 0) = false := decide_eq_false (by rw [cmpI_neg]; exact hl)
        have HLO2 : Hid (c + 1 = (N - b) ∨ T d[c + 1 - 1]! ≤ T d[N - (c + 1)]!) := Lib.hid (.inr (by rw [show c + 1 - 1 = c by omega, show N - (c + 1) = N - 1 - c by omega]; omega))
        clear hl
        go_wp2
        go_quiet (first | (go_at_call 65; refine Calls.quiet_of (HCC.out _)))
        have S2 := Lib.hid (HS.out.drewN nq)
        generalize wr.drewN nq = w2 at *
        go_wp2
        go_roundw
        case rel => exact ⟨c + 1, r, by go_num, rfl, by omega, by omega, by omega, HLO2, HHI, S2⟩
        case measure => simp [intOf]; omega
    · obtain rfl : r = s := by omega
      obtain ⟨L, hLs⟩ : ∃ L, L = r := ⟨_, rfl⟩
      subst hLs
      obtain ⟨e, he⟩ : ∃ e, e = N - L := ⟨_, rfl⟩
      have hN := HN.out
      have f1 : e + L = M + m := by omega
      have hlti : ¬ (L : Int) < (L : Int) := by omega
      have y3 : IntKind.i64.wrap ((N : Int) - (L : Int)) = (e : Int) := by rw [IntWalk.i64_in _ (by omega)]; omega
      have f2 : L ≤ m := by omega
      have f3 : L ≤ M := by omega
      have f4 : a ≤ L := by omega
      have f5 : e ≤ b := by omega
      have HV := Lib.hid (fun d2 => Halved.of (T := T) (d := d) (d2 := d2) hb (by omega) (by omega) f4 f2 f3 (by omega) (by omega) f1 f5 HS1.out HS2.out
        (by rcases HLO.out with h | h
            · first | exact .inl h | exact .inr (.inl (by omega))
            · exact .inr (.inr (by rw [he]; exact h)))
        (by rcases HHI.out with h | h
            · first | exact .inl h | exact .inr (.inl h)
            · exact .inr (.inr (by rw [show e - 1 = N - 1 - L by omega]; exact h))))
      have HA := Lib.hid hall
      clear he hN HN HLO HHI
      by_cases hA : L < m
      · have iA0 : (L : Int) < (m : Int) := by omega
        have iA1 : (M : Int) < (e : Int) := by omega
        by_cases hB : m < e
        · have iB0 : (m : Int) < (e : Int) := by omega
          have iB1 : (L : Int) < (M : Int) := by omega
          by_cases hC : a < L
          · have iC0 : (a : Int) < (L : Int) := by omega
            by_cases hD : e < b
            · have iD0 : (e : Int) < (b : Int) := by omega
              have tokL := Lib.hid trivial
              go_wp2_with (first | (go_at_call 80; refine (rotate_any (cmpV C) L m e HS.out hA hB (by omega) hs).mono ?_; rintro ex w1 ⟨rfl, d2, hS2, hR⟩; have hz2 := hR.size; have hA2 := hall.perm hR.perm (by omega); have hv := HV.out d2 (.inl ⟨hA, hB, hR⟩)) | (go_at_call 79; clear tokL; refine (IH.out a L M d2 _ (by omega) hC (by omega) (by omega) hz2 hS2 hA2 hv.s1 hv.s2).mono ?_; rintro ex w2 ⟨rfl, d3, hS3, hM3⟩; have hz3 := hM3.perm.1.trans hz2; have hA3 := hA2.perm hM3.perm (by omega)) | (go_at_call 79; refine (IH.out M e b d3 _ (by omega) (by omega) hD (by omega) hz3 hS3 hA3 (hv.s3.congr fun x h1 _ => hM3.perm.2.1 x (.inr h1)) (hv.s4.congr fun x h1 _ => hM3.perm.2.1 x (.inr (by omega)))).mono ?_; rintro ex w3 ⟨rfl, d4, hS4, hM4⟩))
              all_goals
                go_end0
                exact ⟨rfl, d4, hS4, hv.merged hb (by omega) (by omega) hM3 hM4⟩
            · have iD0 : ¬ (e : Int) < (b : Int) := by omega
              have tokL := Lib.hid trivial
              go_wp2_with (first | (go_at_call 80; refine (rotate_any (cmpV C) L m e HS.out hA hB (by omega) hs).mono ?_; rintro ex w1 ⟨rfl, d2, hS2, hR⟩; have hz2 := hR.size; have hA2 := hall.perm hR.perm (by omega); have hv := HV.out d2 (.inl ⟨hA, hB, hR⟩)) | (go_at_call 79; clear tokL; refine (IH.out a L M d2 _ (by omega) hC (by omega) (by omega) hz2 hS2 hA2 hv.s1 hv.s2).mono ?_; rintro ex w2 ⟨rfl, d3, hS3, hM3⟩; have hz3 := hM3.perm.1.trans hz2; have hA3 := hA2.perm hM3.perm (by omega)))
              all_goals
                go_end0
                exact ⟨rfl, d3, hS3, hv.merged hb (by omega) (by omega) hM3 (Merged.none (hv.right (by omega) (by omega) (by omega) hM3.perm))⟩
          · have iC0 : ¬ (a : Int) < (L : Int) := by omega
            by_cases hD : e < b
            · have iD0 : (e : Int) < (b : Int) := by omega
              go_wp2_with (first | (go_at_call 80; refine (rotate_any (cmpV C) L m e HS.out hA hB (by omega) hs).mono ?_; rintro ex w1 ⟨rfl, d2, hS2, hR⟩; have hz2 := hR.size; have hA2 := hall.perm hR.perm (by omega); have hv := HV.out d2 (.inl ⟨hA, hB, hR⟩)) | (go_at_call 79; refine (IH.out M e b d2 _ (by omega) (by omega) hD (by omega) hz2 hS2 hA2 hv.s3 hv.s4).mono ?_; rintro ex w3 ⟨rfl, d4, hS4, hM4⟩))
              all_goals
                go_end0
                exact ⟨rfl, d4, hS4, hv.merged hb (by omega) (by omega) (Merged.none (hv.left (by omega) (by omega) (by omega))) hM4⟩
            · have iD0 : ¬ (e : Int) < (b : Int) := by omega
              go_wp2_with (first | (go_at_call 80; refine (rotate_any (cmpV C) L m e HS.out hA hB (by omega) hs).mono ?_; rintro ex w1 ⟨rfl, d2, hS2, hR⟩; have hz2 := hR.size; have hA2 := hall.perm hR.perm (by omega); have hv := HV.out d2 (.inl ⟨hA, hB, hR⟩)))
              all_goals
                go_end0
                exact ⟨rfl, d2, hS2, hv.merged hb (by omega) (by omega) (Merged.none (hv.left (by omega) (by omega) (by omega))) (Merged.none (hv.right (by omega) (by omega) (by omega) (permIn_refl _ _ _)))⟩
        · have iB0 : ¬ (m : Int) < (e : Int) := by omega
          have iB1 : ¬ (L : Int) < (M : Int) := by omega
          by_cases hC : a < L
          · have iC0 : (a : Int) < (L : Int) := by omega
            by_cases hD : e < b
            · have iD0 : (e : Int) < (b : Int) := by omega
              have hv := HV.out d (.inr ⟨by omega, rfl⟩)
              have hz2 : d.size = d.size := rfl
              have hA2 := hall
              have hS2 := HS.out
              go_wp2_with (first | (go_at_call 79; refine (IH.out M e b d _ (by omega) (by omega) hD (by omega) hz2 hS2 hA2 hv.s3 hv.s4).mono ?_; rintro ex w3 ⟨rfl, d4, hS4, hM4⟩))
              all_goals
                go_end0
                exact ⟨rfl, d4, hS4, hv.merged hb (by omega) (by omega) (Merged.none (hv.left (by omega) (by omega) (by omega))) hM4⟩
            · have iD0 : ¬ (e : Int) < (b : Int) := by omega
              have hv := HV.out d (.inr ⟨by omega, rfl⟩)
              have hz2 : d.size = d.size := rfl
              have hA2 := hall
              have hS2 := HS.out
              go_wp2
              all_goals
                go_end0
                exact ⟨rfl, d, hS2, hv.merged hb (by omega) (by omega) (Merged.none (hv.left (by omega) (by omega) (by omega))) (Merged.none (hv.right (by omega) (by omega) (by omega) (permIn_refl _ _ _)))⟩
          · have iC0 : ¬ (a : Int) < (L : Int) := by omega
            by_cases hD : e < b
            · have iD0 : (e : Int) < (b : Int) := by omega
              have hv := HV.out d (.inr ⟨by omega, rfl⟩)
              have hz2 : d.size = d.size := rfl
              have hA2 := hall
              have hS2 := HS.out
              go_wp2_with (first | (go_at_call 79; refine (IH.out M e b d _ (by omega) (by omega) hD (by omega) hz2 hS2 hA2 hv.s3 hv.s4).mono ?_; rintro ex w3 ⟨rfl, d4, hS4, hM4⟩))
              all_goals
                go_end0
                exact ⟨rfl, d4, hS4, hv.merged hb (by omega) (by omega) (Merged.none (hv.left (by omega) (by omega) (by omega))) hM4⟩
            · have iD0 : ¬ (e : Int) < (b : Int) := by omega
              have hv := HV.out d (.inr ⟨by omega, rfl⟩)
              have hz2 : d.size = d.size := rfl
              have hA2 := hall
              have hS2 := HS.out
              go_wp2
              all_goals
                go_end0
                exact ⟨rfl, d, hS2, hv.merged hb (by omega) (by omega) (Merged.none (hv.left (by omega) (by omega) (by omega))) (Merged.none (hv.right (by omega) (by omega) (by omega) (permIn_refl _ _ _)))⟩
      · have iA0 : ¬ (L : Int) < (m : Int) := by omega
        have iA1 : ¬ (M : Int) < (e : Int) := by omega
        by_cases hB : m < e
        · have iB0 : (m : Int) < (e : Int) := by omega
          have iB1 : (L : Int) < (M : Int) := by omega
          by_cases hC : a < L
          · have iC0 : (a : Int) < (L : Int) := by omega
            by_cases hD : e < b
            · have iD0 : (e : Int) < (b : Int) := by omega
              have hv := HV.out d (.inr ⟨by omega, rfl⟩)
              have hz2 : d.size = d.size := rfl
              have hA2 := hall
              have hS2 := HS.out
              have tokL := Lib.hid trivial
              go_wp2_with (first | (go_at_call 79; clear tokL; refine (IH.out a L M d _ (by omega) hC (by omega) (by omega) hz2 hS2 hA2 hv.s1 hv.s2).mono ?_; rintro ex w2 ⟨rfl, d3, hS3, hM3⟩; have hz3 := hM3.perm.1.trans hz2; have hA3 := hA2.perm hM3.perm (by omega)))
              all_goals
                go_end0
                exact ⟨rfl, d3, hS3, hv.merged hb (by omega) (by omega) hM3 (Merged.none (hv.right (by omega) (by omega) (by omega) hM3.perm))⟩
            · have iD0 : ¬ (e : Int) < (b : Int) := by omega
              have hv := HV.out d (.inr ⟨by omega, rfl⟩)
              have hz2 : d.size = d.size := rfl
              have hA2 := hall
              have hS2 := HS.out
              have tokL := Lib.hid trivial
              go_wp2_with (first | (go_at_call 79; clear tokL; refine (IH.out a L M d _ (by omega) hC (by omega) (by omega) hz2 hS2 hA2 hv.s1 hv.s2).mono ?_; rintro ex w2 ⟨rfl, d3, hS3, hM3⟩; have hz3 := hM3.perm.1.trans hz2; have hA3 := hA2.perm hM3.perm (by omega)))
              all_goals
                go_end0
                exact ⟨rfl, d3, hS3, hv.merged hb (by omega) (by omega) hM3 (Merged.none (hv.right (by omega) (by omega) (by omega) hM3.perm))⟩
          · have iC0 : ¬ (a : Int) < (L : Int) := by omega
            by_cases hD : e < b
            · have iD0 : (e : Int) < (b : Int) := by omega
              have hv := HV.out d (.inr ⟨by omega, rfl⟩)
              have hz2 : d.size = d.size := rfl
              have hA2 := hall
              have hS2 := HS.out
              go_wp2
              all_goals
                go_end0
                exact ⟨rfl, d, hS2, hv.merged hb (by omega) (by omega) (Merged.none (hv.left (by omega) (by omega) (by omega))) (Merged.none (hv.right (by omega) (by omega) (by omega) (permIn_refl _ _ _)))⟩
            · have iD0 : ¬ (e : Int) < (b : Int) := by omega
              have hv := HV.out d (.inr ⟨by omega, rfl⟩)
              have hz2 : d.size = d.size := rfl
              have hA2 := hall
              have hS2 := HS.out
              go_wp2
              all_goals
                go_end0
                exact ⟨rfl, d, hS2, hv.merged hb (by omega) (by omega) (Merged.none (hv.left (by omega) (by omega) (by omega))) (Merged.none (hv.right (by omega) (by omega) (by omega) (permIn_refl _ _ _)))⟩
        · have iB0 : ¬ (m : Int) < (e : Int) := by omega
          have iB1 : ¬ (L : Int) < (M : Int) := by omega
          by_cases hC : a < L
          · have iC0 : (a : Int) < (L : Int) := by omega
            by_cases hD : e < b
            · have iD0 : (e : Int) < (b : Int) := by omega
              have hv := HV.out d (.inr ⟨by omega, rfl⟩)
              have hz2 : d.size = d.size := rfl
              have hA2 := hall
              have hS2 := HS.out
              go_wp2
              all_goals
                go_end0
                exact ⟨rfl, d, hS2, hv.merged hb (by omega) (by omega) (Merged.none (hv.left (by omega) (by omega) (by omega))) (Merged.none (hv.right (by omega) (by omega) (by omega) (permIn_refl _ _ _)))⟩
            · have iD0 : ¬ (e : Int) < (b : Int) := by omega
              have hv := HV.out d (.inr ⟨by omega, rfl⟩)
              have hz2 : d.size = d.size := rfl
              have hA2 := hall
              have hS2 := HS.out
              go_wp2
              all_goals
                go_end0
                exact ⟨rfl, d, hS2, hv.merged hb (by omega) (by omega) (Merged.none (hv.left (by omega) (by omega) (by omega))) (Merged.none (hv.right (by omega) (by omega) (by omega) (permIn_refl _ _ _)))⟩
          · have iC0 : ¬ (a : Int) < (L : Int) := by omega
            by_cases hD : e < b
            · have iD0 : (e : Int) < (b : Int) := by omega
              have hv := HV.out d (.inr ⟨by omega, rfl⟩)
              have hz2 : d.size = d.size := rfl
              have hA2 := hall
              have hS2 := HS.out
              go_wp2
              all_goals
                go_end0
                exact ⟨rfl, d, hS2, hv.merged hb (by omega) (by omega) (Merged.none (hv.left (by omega) (by omega) (by omega))) (Merged.none (hv.right (by omega) (by omega) (by omega) (permIn_refl _ _ _)))⟩
            · have iD0 : ¬ (e : Int) < (b : Int) := by omega
              have hv := HV.out d (.inr ⟨by omega, rfl⟩)
              have hz2 : d.size = d.size := rfl
              have hA2 := hall
              have hS2 := HS.out
              go_wp2
              all_goals
                go_end0
                exact ⟨rfl, d, hS2, hv.merged hb (by omega) (by omega) (Merged.none (hv.left (by omega) (by omega) (by omega))) (Merged.none (hv.right (by omega) (by omega) (by omega) (permIn_refl _ _ _)))⟩

set_option maxRecDepth 100000 in
set_option maxHeartbeats 16000000 in
theorem sym3b (a m b M : Nat) (h : SX w0 w G d) (hc : CmpOk w0 G C n T) (hall : AllLt d n) (ham : a + 1 < m) (hmb : m + 1 < b) (hb : b ≤ d.size) (hs : d.size ≤ 1000000) (hs1 : Srt T a m d) (hs2 : Srt T m b d)
    (hM1 : 2 * M ≤ a + b) (hM2 : a + b ≤ 2 * M + 1) (hcase : ¬ M < m) (ih : SymBelow w0 G C n d.size T (b - a)) :
    Calls Try.prog 79 #[rowV G d.size, .int .i64 a, .int .i64 m, .int .i64 b, cmpV C] w fun e w' => e = .returned (.tuple #[]) ∧ ∃ d', SX w0 w' G d' ∧ Merged T a b d d' := by
  have H := Lib.hid h
  have HC := Lib.hid hc
  have IH := Lib.hid ih
  have HS1 := Lib.hid hs1
  have HS2 := Lib.hid hs2
  clear h hc ih hs1 hs2
  have z1 : IntKind.i64.wrap ((b : Int) - (m : Int)) = ((b - m : Nat) : Int) := by rw [IntWalk.i64_in _ (by omega)]; omega
  have z2 : IntKind.i64.wrap ((m : Int) - (a : Int)) = ((m - a : Nat) : Int) := by rw [IntWalk.i64_in _ (by omega)]; omega
  have z3 : (((m - a : Nat) : Int) == 1) = false := by simp; omega
  have z4 : (((b - m : Nat) : Int) == 1) = false := by simp; omega
  have z5 : IntKind.i64.wrap ((a : Int) + (b : Int)) = (a : Int) + (b : Int) := IntWalk.i64_in _ (by omega)
  have z6 : ((a : Int) + (b : Int)) / 2 = (M : Int) := by omega
  obtain ⟨N, hN⟩ : ∃ N, N = M + m := ⟨_, rfl⟩
  have z7 : IntKind.i64.wrap ((M : Int) + (m : Int)) = (N : Int) := by rw [IntWalk.i64_in _ (by omega)]; omega
  have z8 : IntKind.i64.wrap ((N : Int) - 1) = ((N - 1 : Nat) : Int) := by rw [IntWalk.i64_in _ (by omega)]; omega
  have zc : ¬ (M : Int) < (m : Int) := by omega
  have hzd : d.size = d.size := rfl
  have HN := Lib.hid hN
  clear hN
  go_enter Try.func79, Try.ntmps79
  go_wp2
  go_loopw [20, 21] (fun vi vj wr => ∃ (s r : Nat), vi = .int .i64 s ∧ vj = .int .i64 r ∧ a ≤ s ∧ s ≤ r ∧ r ≤ m ∧ Hid (s = a ∨ T d[s - 1]! ≤ T d[N - s]!) ∧ Hid (r = m ∨ T d[N - 1 - r]! < T d[r]!) ∧ Hid (SX w0 wr G d)) (fun vi vj _ => (intOf vj).toNat - (intOf vi).toNat)
  case atStart => exact ⟨a, m, rfl, rfl, by omega, by have := HN.out; omega, by omega, Lib.hid (.inl rfl), Lib.hid (.inl rfl), H⟩
  case round =>
    clear H
    obtain ⟨s, r, rfl, rfl, hls, hsr, hrh, HLO, HHI, HS⟩ := hrel
    by_cases hlt : s < r
    · have y1 : IntKind.i64.wrap ((s : Int) + (r : Int)) = (s : Int) + (r : Int) := IntWalk.i64_in _ (by omega)
      have hlti : (s : Int) < (r : Int) := by omega
      obtain ⟨c, hc⟩ : ∃ c, c = (s + r) / 2 := ⟨_, rfl⟩
      have y2 : ((s : Int) + (r : Int)) / 2 = (c : Int) := by omega
      have hci : s ≤ c := by omega
      have hcj : c < r := by omega
      clear hc
      have hN := HN.out
      have y3 : IntKind.i64.wrap (((N - 1 : Nat) : Int) - (c : Int)) = ((N - 1 - c : Nat) : Int) := by rw [IntWalk.i64_in _ (by omega)]; omega
      have x1 : (c : Int) < (d.size : Int) := by omega
      have x2 : ((N - 1 - c : Nat) : Int) < (d.size : Int) := by omega
      have c1 := HS.out.c c (by omega)
      have c2 := HS.out.c (N - 1 - c) (by omega)
      have HCC := Lib.hid (fun q => HC.out (wr.drewN q) d[N - 1 - c]! d[c]! (HS.out.drewN q).fr (hall (N - 1 - c) (by omega)) (hall c (by omega)))
      clear hN
      by_cases hl : T d[N - 1 - c]! < T d[c]!
      · have hv : decide (cmpI (T d[N - 1 - c]!) (T d[c]!) < 0) = true := decide_eq_true (by rw [cmpI_neg]; exact hl)
        have HHI2 : Hid (c = m ∨ T d[N - 1 - c]! < T d[c]!) := Lib.hid (.inr hl)
        clear hl
        go_wp2
        go_quiet (first | (go_at_call 65; refine Calls.quiet_of (HCC.out _)))
        have S2 := Lib.hid (HS.out.drewN nq)
        generalize wr.drewN nq = w2 at *
        go_wp2
        go_roundw
        case rel => exact ⟨s, c, rfl, rfl, by omega, by omega, by omega, HLO, HHI2, S2⟩
        case measure => simp [intOf]; omega
      · have hv : decide (cmpI (T d[N - 1 - c]!) (T d[c]!) < 0) = false := decide_eq_false (by rw [cmpI_neg]; exact hl)
        have HLO2 : Hid (c + 1 = a ∨ T d[c + 1 - 1]! ≤ T d[N - (c + 1)]!) := Lib.hid (.inr (by rw [show c + 1 - 1 = c by omega, show N - (c + 1) = N - 1 - c by omega]; omega))
        clear hl
        go_wp2
        go_quiet (first | (go_at_call 65; refine Calls.quiet_of (HCC.out _)))
        have S2 := Lib.hid (HS.out.drewN nq)
        generalize wr.drewN nq = w2 at *
        go_wp2
        go_roundw
        case rel => exact ⟨c + 1, r, by go_num, rfl, by omega, by omega, by omega, HLO2, HHI, S2⟩
        case measure => simp [intOf]; omega
    · obtain rfl : r = s := by omega
      obtain ⟨L, hLs⟩ : ∃ L, L = r := ⟨_, rfl⟩
      subst hLs
      obtain ⟨e, he⟩ : ∃ e, e = N - L := ⟨_, rfl⟩
      have hN := HN.out
      have f1 : e + L = M + m := by omega
      have hlti : ¬ (L : Int) < (L : Int) := by omega
      have y3 : IntKind.i64.wrap ((N : Int) - (L : Int)) = (e : Int) := by rw [IntWalk.i64_in _ (by omega)]; omega
      have f2 : L ≤ m := by omega
      have f3 : L ≤ M := by omega
      have f4 : a ≤ L := by omega
      have f5 : e ≤ b := by omega
      have HV := Lib.hid (fun d2 => Halved.of (T := T) (d := d) (d2 := d2) hb (by omega) (by omega) f4 f2 f3 (by omega) (by omega) f1 f5 HS1.out HS2.out
        (by rcases HLO.out with h | h
            · first | exact .inl h | exact .inr (.inl (by omega))
            · exact .inr (.inr (by rw [he]; exact h)))
        (by rcases HHI.out with h | h
            · first | exact .inl h | exact .inr (.inl h)
            · exact .inr (.inr (by rw [show e - 1 = N - 1 - L by omega]; exact h))))
      have HA := Lib.hid hall
      clear he hN HN HLO HHI
      by_cases hA : L < m
      · have iA0 : (L : Int) < (m : Int) := by omega
        have iA1 : (M : Int) < (e : Int) := by omega
        by_cases hB : m < e
        · have iB0 : (m : Int) < (e : Int) := by omega
          have iB1 : (L : Int) < (M : Int) := by omega
          by_cases hC : a < L
          · have iC0 : (a : Int) < (L : Int) := by omega
            by_cases hD : e < b
            · have iD0 : (e : Int) < (b : Int) := by omega
              have tokL := Lib.hid trivial
              go_wp2_with (first | (go_at_call 80; refine (rotate_any (cmpV C) L m e HS.out hA hB (by omega) hs).mono ?_; rintro ex w1 ⟨rfl, d2, hS2, hR⟩; have hz2 := hR.size; have hA2 := hall.perm hR.perm (by omega); have hv := HV.out d2 (.inl ⟨hA, hB, hR⟩)) | (go_at_call 79; clear tokL; refine (IH.out a L M d2 _ (by omega) hC (by omega) (by omega) hz2 hS2 hA2 hv.s1 hv.s2).mono ?_; rintro ex w2 ⟨rfl, d3, hS3, hM3⟩; have hz3 := hM3.perm.1.trans hz2; have hA3 := hA2.perm hM3.perm (by omega)) | (go_at_call 79; refine (IH.out M e b d3 _ (by omega) (by omega) hD (by omega) hz3 hS3 hA3 (hv.s3.congr fun x h1 _ => hM3.perm.2.1 x (.inr h1)) (hv.s4.congr fun x h1 _ => hM3.perm.2.1 x (.inr (by omega)))).mono ?_; rintro ex w3 ⟨rfl, d4, hS4, hM4⟩))
              all_goals
                go_end0
                exact ⟨rfl, d4, hS4, hv.merged hb (by omega) (by omega) hM3 hM4⟩
            · have iD0 : ¬ (e : Int) < (b : Int) := by omega
              have tokL := Lib.hid trivial
              go_wp2_with (first | (go_at_call 80; refine (rotate_any (cmpV C) L m e HS.out hA hB (by omega) hs).mono ?_; rintro ex w1 ⟨rfl, d2, hS2, hR⟩; have hz2 := hR.size; have hA2 := hall.perm hR.perm (by omega); have hv := HV.out d2 (.inl ⟨hA, hB, hR⟩)) | (go_at_call 79; clear tokL; refine (IH.out a L M d2 _ (by omega) hC (by omega) (by omega) hz2 hS2 hA2 hv.s1 hv.s2).mono ?_; rintro ex w2 ⟨rfl, d3, hS3, hM3⟩; have hz3 := hM3.perm.1.trans hz2; have hA3 := hA2.perm hM3.perm (by omega)))
              all_goals
                go_end0
                exact ⟨rfl, d3, hS3, hv.merged hb (by omega) (by omega) hM3 (Merged.none (hv.right (by omega) (by omega) (by omega) hM3.perm))⟩
          · have iC0 : ¬ (a : Int) < (L : Int) := by omega
            by_cases hD : e < b
            · have iD0 : (e : Int) < (b : Int) := by omega
              go_wp2_with (first | (go_at_call 80; refine (rotate_any (cmpV C) L m e HS.out hA hB (by omega) hs).mono ?_; rintro ex w1 ⟨rfl, d2, hS2, hR⟩; have hz2 := hR.size; have hA2 := hall.perm hR.perm (by omega); have hv := HV.out d2 (.inl ⟨hA, hB, hR⟩)) | (go_at_call 79; refine (IH.out M e b d2 _ (by omega) (by omega) hD (by omega) hz2 hS2 hA2 hv.s3 hv.s4).mono ?_; rintro ex w3 ⟨rfl, d4, hS4, hM4⟩))
              all_goals
                go_end0
                exact ⟨rfl, d4, hS4, hv.merged hb (by omega) (by omega) (Merged.none (hv.left (by omega) (by omega) (by omega))) hM4⟩
            · have iD0 : ¬ (e : Int) < (b : Int) := by omega
              go_wp2_with (first | (go_at_call 80; refine (rotate_any (cmpV C) L m e HS.out hA hB (by omega) hs).mono ?_; rintro ex w1 ⟨rfl, d2, hS2, hR⟩; have hz2 := hR.size; have hA2 := hall.perm hR.perm (by omega); have hv := HV.out d2 (.inl ⟨hA, hB, hR⟩)))
              all_goals
                go_end0
                exact ⟨rfl, d2, hS2, hv.merged hb (by omega) (by omega) (Merged.none (hv.left (by omega) (by omega) (by omega))) (Merged.none (hv.right (by omega) (by omega) (by omega) (permIn_refl _ _ _)))⟩
        · have iB0 : ¬ (m : Int) < (e : Int) := by omega
          have iB1 : ¬ (L : Int) < (M : Int) := by omega
          by_cases hC : a < L
          · have iC0 : (a : Int) < (L : Int) := by omega
            by_cases hD : e < b
            · have iD0 : (e : Int) < (b : Int) := by omega
              have hv := HV.out d (.inr ⟨by omega, rfl⟩)
              have hz2 : d.size = d.size := rfl
              have hA2 := hall
              have hS2 := HS.out
              go_wp2_with (first | (go_at_call 79; refine (IH.out M e b d _ (by omega) (by omega) hD (by omega) hz2 hS2 hA2 hv.s3 hv.s4).mono ?_; rintro ex w3 ⟨rfl, d4, hS4, hM4⟩))
              all_goals
                go_end0
                exact ⟨rfl, d4, hS4, hv.merged hb (by omega) (by omega) (Merged.none (hv.left (by omega) (by omega) (by omega))) hM4⟩
            · have iD0 : ¬ (e : Int) < (b : Int) := by omega
              have hv := HV.out d (.inr ⟨by omega, rfl⟩)
              have hz2 : d.size = d.size := rfl
              have hA2 := hall
              have hS2 := HS.out
              go_wp2
              all_goals
                go_end0
                exact ⟨rfl, d, hS2, hv.merged hb (by omega) (by omega) (Merged.none (hv.left (by omega) (by omega) (by omega))) (Merged.none (hv.right (by omega) (by omega) (by omega) (permIn_refl _ _ _)))⟩
          · have iC0 : ¬ (a : Int) < (L : Int) := by omega
            by_cases hD : e < b
            · have iD0 : (e : Int) < (b : Int) := by omega
              have hv := HV.out d (.inr ⟨by omega, rfl⟩)
              have hz2 : d.size = d.size := rfl
              have hA2 := hall
              have hS2 := HS.out
              go_wp2_with (first | (go_at_call 79; refine (IH.out M e b d _ (by omega) (by omega) hD (by omega) hz2 hS2 hA2 hv.s3 hv.s4).mono ?_; rintro ex w3 ⟨rfl, d4, hS4, hM4⟩))
              all_goals
                go_end0
                exact ⟨rfl, d4, hS4, hv.merged hb (by omega) (by omega) (Merged.none (hv.left (by omega) (by omega) (by omega))) hM4⟩
            · have iD0 : ¬ (e : Int) < (b : Int) := by omega
              have hv := HV.out d (.inr ⟨by omega, rfl⟩)
              have hz2 : d.size = d.size := rfl
              have hA2 := hall
              have hS2 := HS.out
              go_wp2
              all_goals
                go_end0
                exact ⟨rfl, d, hS2, hv.merged hb (by omega) (by omega) (Merged.none (hv.left (by omega) (by omega) (by omega))) (Merged.none (hv.right (by omega) (by omega) (by omega) (permIn_refl _ _ _)))⟩
      · have iA0 : ¬ (L : Int) < (m : Int) := by omega
        have iA1 : ¬ (M : Int) < (e : Int) := by omega
        by_cases hB : m < e
        · have iB0 : (m : Int) < (e : Int) := by omega
          have iB1 : (L : Int) < (M : Int) := by omega
          by_cases hC : a < L
          · have iC0 : (a : Int) < (L : Int) := by omega
            by_cases hD : e < b
            · have iD0 : (e : Int) < (b : Int) := by omega
              have hv := HV.out d (.inr ⟨by omega, rfl⟩)
              have hz2 : d.size = d.size := rfl
              have hA2 := hall
              have hS2 := HS.out
              have tokL := Lib.hid trivial
              go_wp2_with (first | (go_at_call 79; clear tokL; refine (IH.out a L M d _ (by omega) hC (by omega) (by omega) hz2 hS2 hA2 hv.s1 hv.s2).mono ?_; rintro ex w2 ⟨rfl, d3, hS3, hM3⟩; have hz3 := hM3.perm.1.trans hz2; have hA3 := hA2.perm hM3.perm (by omega)))
              all_goals
                go_end0
                exact ⟨rfl, d3, hS3, hv.merged hb (by omega) (by omega) hM3 (Merged.none (hv.right (by omega) (by omega) (by omega) hM3.perm))⟩
            · have iD0 : ¬ (e : Int) < (b : Int) := by omega
              have hv := HV.out d (.inr ⟨by omega, rfl⟩)
              have hz2 : d.size = d.size := rfl
              have hA2 := hall
              have hS2 := HS.out
              have tokL := Lib.hid trivial
              go_wp2_with (first | (go_at_call 79; clear tokL; refine (IH.out a L M d _ (by omega) hC (by omega) (by omega) hz2 hS2 hA2 hv.s1 hv.s2).mono ?_; rintro ex w2 ⟨rfl, d3, hS3, hM3⟩; have hz3 := hM3.perm.1.trans hz2; have hA3 := hA2.perm hM3.perm (by omega)))
              all_goals
                go_end0
                exact ⟨rfl, d3, hS3, hv.merged hb (by omega) (by omega) hM3 (Merged.none (hv.right (by omega) (by omega) (by omega) hM3.perm))⟩
          · have iC0 : ¬ (a : Int) < (L : Int) := by omega
            by_cases hD : e < b
            · have iD0 : (e : Int) < (b : Int) := by omega
              have hv := HV.out d (.inr ⟨by omega, rfl⟩)
              have hz2 : d.size = d.size := rfl
              have hA2 := hall
              have hS2 := HS.out
              go_wp2
              all_goals
                go_end0
                exact ⟨rfl, d, hS2, hv.merged hb (by omega) (by omega) (Merged.none (hv.left (by omega) (by omega) (by omega))) (Merged.none (hv.right (by omega) (by omega) (by omega) (permIn_refl _ _ _)))⟩
            · have iD0 : ¬ (e : Int) < (b : Int) := by omega
              have hv := HV.out d (.inr ⟨by omega, rfl⟩)
              have hz2 : d.size = d.size := rfl
              have hA2 := hall
              have hS2 := HS.out
              go_wp2
              all_goals
                go_end0
                exact ⟨rfl, d, hS2, hv.merged hb (by omega) (by omega) (Merged.none (hv.left (by omega) (by omega) (by omega))) (Merged.none (hv.right (by omega) (by omega) (by omega) (permIn_refl _ _ _)))⟩
        · have iB0 : ¬ (m : Int) < (e : Int) := by omega
          have iB1 : ¬ (L : Int) < (M : Int) := by omega
          by_cases hC : a < L
          · have iC0 : (a : Int) < (L : Int) := by omega
            by_cases hD : e < b
            · have iD0 : (e : Int) < (b : Int) := by omega
              have hv := HV.out d (.inr ⟨by omega, rfl⟩)
              have hz2 : d.size = d.size := rfl
              have hA2 := hall
              have hS2 := HS.out
              go_wp2
              all_goals
                go_end0
                exact ⟨rfl, d, hS2, hv.merged hb (by omega) (by omega) (Merged.none (hv.left (by omega) (by omega) (by omega))) (Merged.none (hv.right (by omega) (by omega) (by omega) (permIn_refl _ _ _)))⟩
            · have iD0 : ¬ (e : Int) < (b : Int) := by omega
              have hv := HV.out d (.inr ⟨by omega, rfl⟩)
              have hz2 : d.size = d.size := rfl
              have hA2 := hall
              have hS2 := HS.out
              go_wp2
              all_goals
                go_end0
                exact ⟨rfl, d, hS2, hv.merged hb (by omega) (by omega) (Merged.none (hv.left (by omega) (by omega) (by omega))) (Merged.none (hv.right (by omega) (by omega) (by omega) (permIn_refl _ _ _)))⟩
          · have iC0 : ¬ (a : Int) < (L : Int) := by omega
            by_cases hD : e < b
            · have iD0 : (e : Int) < (b : Int) := by omega
              have hv := HV.out d (.inr ⟨by omega, rfl⟩)
              have hz2 : d.size = d.size := rfl
              have hA2 := hall
              have hS2 := HS.out
              go_wp2
              all_goals
                go_end0
                exact ⟨rfl, d, hS2, hv.merged hb (by omega) (by omega) (Merged.none (hv.left (by omega) (by omega) (by omega))) (Merged.none (hv.right (by omega) (by omega) (by omega) (permIn_refl _ _ _)))⟩
            · have iD0 : ¬ (e : Int) < (b : Int) := by omega
              have hv := HV.out d (.inr ⟨by omega, rfl⟩)
              have hz2 : d.size = d.size := rfl
              have hA2 := hall
              have hS2 := HS.out
              go_wp2
              all_goals
                go_end0
                exact ⟨rfl, d, hS2, hv.merged hb (by omega) (by omega) (Merged.none (hv.left (by omega) (by omega) (by omega))) (Merged.none (hv.right (by omega) (by omega) (by omega) (permIn_refl _ _ _)))⟩
end Go.Proofs.Ytmjdmpapickgkaa
