import Derived.Test.YtmjdmpapickgkaaZb
import Derived.Deep.QuietTactic
import Derived.BigQuiet
namespace Go.Proofs.Ytmjdmpapickgkaa
open Go.RowKit Go.Kk

set_option maxRecDepth 100000 in
set_option maxHeartbeats 1000000 in
theorem machGrows_out (p : List Opn) (v : Value) (time more : Int) (w : World) (hl : IsProg w v p) (hlp : p.length ≤ maxLen) (hls : ∀ o ∈ p, o.src.length ≤ maxLen) (h : wideP p = true ∨ okProg p = false ∨ 1000000 < time ∨ time < -1000000) :
    Calls Try.prog 4 #[v, .int .i64 time, .int .u16 more] w fun e w' => e = .returned (.bool true) ∧ Below w.heap.size w w' := by
  have HW := Lib.hid (wide_any p v w hl hlp hls)
  have HS := Lib.hid sane_any
  by_cases hw : wideP p = true
  · rw [hw] at HW
    clear hl hlp hls hw h
    go_enter Try.func4, Try.ntmps4
    go_wp2_with (first
      | (go_at_call 10; refine HW.out.mono ?_; rintro e w1 ⟨rfl, hw1⟩; subst hw1)
      | (go_at_call 11; refine (HS.out _).mono ?_; rintro e w1 ⟨rfl, h1⟩))
    go_ret
    exact ⟨rfl, h1⟩
  have hw' : wideP p = false := by simpa using hw
  obtain ⟨hn, h60⟩ := not_wide hw'
  rw [hw'] at HW
  have HV := Lib.hid (refValid_any p v w hl hn)
  by_cases hok : okProg p = true
  · rw [hok] at HV
    have h' : 1000000 < time ∨ time < -1000000 := by
      rcases h with h | h | h
      · exact absurd h hw
      · rw [hok] at h; cases h
      · exact h
    clear hl hlp hls hw h hw' hn h60 hok
    by_cases h1 : 1000000 < time
    · clear h'
      go_enter Try.func4, Try.ntmps4
      go_wp2_with (first
        | (go_at_call 10; refine HW.out.mono ?_; rintro e w1 ⟨rfl, hw1⟩; subst hw1)
        | (go_at_call 17; refine HV.out.mono ?_; rintro e w2 ⟨rfl, h2⟩)
        | (go_at_call 11; refine (HS.out _).mono ?_; rintro e w3 ⟨rfl, h3⟩))
      go_ret
      exact ⟨rfl, h2.trans (h3.mono h2.size)⟩
    · have h2 : time < -1000000 := by omega
      clear h'
      go_enter Try.func4, Try.ntmps4
      go_wp2_with (first
        | (go_at_call 10; refine HW.out.mono ?_; rintro e w1 ⟨rfl, hw1⟩; subst hw1)
        | (go_at_call 17; refine HV.out.mono ?_; rintro e w2 ⟨rfl, h2⟩)
        | (go_at_call 11; refine (HS.out _).mono ?_; rintro e w3 ⟨rfl, h3⟩))
      go_ret
      exact ⟨rfl, h2.trans (h3.mono h2.size)⟩
  · rw [show okProg p = false by simpa using hok] at HV
    clear hl hlp hls hw h hw' hn h60 hok
    go_enter Try.func4, Try.ntmps4
    go_wp2_with (first
      | (go_at_call 10; refine HW.out.mono ?_; rintro e w1 ⟨rfl, hw1⟩; subst hw1)
      | (go_at_call 17; refine HV.out.mono ?_; rintro e w2 ⟨rfl, h2⟩)
      | (go_at_call 11; refine (HS.out _).mono ?_; rintro e w3 ⟨rfl, h3⟩))
    go_ret
    exact ⟨rfl, h2.trans (h3.mono h2.size)⟩

set_option maxRecDepth 100000 in
set_option maxHeartbeats 1000000 in
theorem machGrows_err (p : List Opn) (v : Value) (time more : Int) (w : World) (hl : IsProg w v p) (hlp : p.length ≤ maxLen) (hls : ∀ o ∈ p, o.src.length ≤ maxLen) (hw : wideP p = false) (hok : okProg p = true) (ht : -1000000 ≤ time ∧ time ≤ 1000000) (hm : 0 ≤ more ∧ more ≤ 65535) (hz : runE p ≠ 0) :
    Calls Try.prog 4 #[v, .int .i64 time, .int .u16 more] w fun e w' => e = .returned (.bool true) ∧ Below w.heap.size w w' := by
  have HW := Lib.hid (wide_any p v w hl hlp hls)
  have HS := Lib.hid sane_any
  obtain ⟨hn, h60⟩ := not_wide hw
  rw [hw] at HW
  have HV := Lib.hid (refValid_any p v w hl hn)
  rw [hok] at HV
  have H12 := Lib.hid (fun w1 (hb : Below w.heap.size w w1) => Run_err p v w1 (hl.keeps (Keeps.of_below hb)) hn hz)
  have H14 := Lib.hid (fun w1 (hb : Below w.heap.size w w1) t => until_err p v t w1 (hl.keeps (Keeps.of_below hb)) hn hz)
  unfold ErrPost at H12 H14
  have hzb : (runE p != 0) = true := by simpa using hz
  clear hl hlp hls hw hn h60 hz hok
  generalize runE p = er at *
  go_enter Try.func4, Try.ntmps4
  go_wp2_with (first
    | (go_at_call 10; refine HW.out.mono ?_; rintro e w1 ⟨rfl, hw1⟩; subst hw1)
    | (go_at_call 17; refine HV.out.mono ?_; rintro e w2 ⟨rfl, h2⟩)
    | (go_at_call 12; refine (H12.out _ h2).mono ?_; rintro e w3 ⟨rfl, h3⟩; have h3' := h2.trans (h3.mono h2.size); have tok := Lib.hid trivial)
    | (have _t := tok; go_at_call 14; refine (H14.out _ h3' _).mono ?_; rintro e w4 ⟨rfl, h4⟩; have h4' := h3'.trans (h4.mono h3'.size); clear tok _t)
    | (go_at_call 14; refine (H14.out _ h4' _).mono ?_; rintro e w5 ⟨rfl, h5⟩; have h5' := h4'.trans (h5.mono h4'.size))
    | (go_at_call 11; refine (HS.out _).mono ?_; rintro e w6 ⟨rfl, h6⟩))
  go_ret
  exact ⟨rfl, h5'.trans (h6.mono h5'.size)⟩

set_option maxRecDepth 100000 in
set_option maxHeartbeats 16000000 in
theorem machGrows_ok (p : List Opn) (v : Value) (time more : Int) (w : World) (hl : IsProg w v p) (hlp : p.length ≤ maxLen) (hls : ∀ o ∈ p, o.src.length ≤ maxLen) (hw : wideP p = false) (hp : Runs p) (ht : -1000000 ≤ time ∧ time ≤ 1000000) (hm : 0 ≤ more ∧ more ≤ 65535) :
    Calls Try.prog 4 #[v, .int .i64 time, .int .u16 more] w fun e w' => e = .returned (.bool true) ∧ Below w.heap.size w w' := by
  obtain ⟨bs, cq, hval⟩ := hl.1.shape
  subst hval
  have HW := Lib.hid (wide_any p _ w hl hlp hls)
  have HS := Lib.hid sane_any
  obtain ⟨hn, h60⟩ := not_wide hw
  have h60' := runs_60 h60 hp.ok
  rw [hw] at HW
  have HV := Lib.hid (refValid_any p _ w hl hn)
  rw [hp.ok] at HV
  have H12 := Lib.hid (fun w1 (hb : Below w.heap.size w w1) => Run_ok p _ w1 (hl.keeps (Keeps.of_below hb)) hp h60')
  have H14 := Lib.hid (fun w1 (hb : Below w.heap.size w w1) t => until_ok p _ t w1 (hl.keeps (Keeps.of_below hb)) hp h60')
  unfold UntilPost at H12 H14
  have HC : Hid (∀ w1, Below w.heap.size w w1 → ∀ k, k < p.length → ∃ b off, bs = some ⟨b, off, none⟩ ∧ w1.cell? ⟨b, off + k * 6, none⟩ = some (.int .i64 (opn p k).time)) := Lib.hid fun w1 hb k hk => by
    obtain ⟨b1, off, cp1, hv, hc, hcl⟩ := Sl.at hl.1 (by omega)
    injection hv with hv1 _ hv3
    obtain ⟨c0, _⟩ := op_cells (hcl.keeps (Keeps.of_below hb)) k hk
    exact ⟨b1, off, hv1, by rw [opn_eq hk]; exact c0⟩
  have HU := Lib.hid (untilV_all hp.ok)
  clear hl hlp hls hw hn h60 hp
  have hwr : IntKind.i64.wrap (time + more) = time + more := IntWalk.i64_in _ (by omega)
  go_enter Try.func4, Try.ntmps4
  go_wp2_with (first
    | (go_at_call 10; refine HW.out.mono ?_; rintro e w1 ⟨rfl, hw1⟩; subst hw1)
    | (go_at_call 17; refine HV.out.mono ?_; rintro e w2 ⟨rfl, h2⟩)
    | (go_at_call 12; refine (H12.out _ h2).mono ?_; rintro e w3 ⟨G3, rfl, hG3, hA3, hs3, h3⟩; have h3' := h2.trans (h3.mono h2.size); have tok := Lib.hid trivial)
    | (have _t := tok; go_at_call 14; refine (H14.out _ h3' _).mono ?_; rintro e w4 ⟨G4, rfl, hG4, hA4, hs4, h4⟩; have h4' := h3'.trans (h4.mono h3'.size); clear tok _t)
    | (go_at_call 14; refine (H14.out _ h4' _).mono ?_; rintro e w5 ⟨G5, rfl, hG5, hA5, hs5, h5⟩; have h5' := h4'.trans (h5.mono h4'.size)))
  have HV3 : Hid (∀ k, k < p.length → w5.cell? ⟨G3, k, none⟩ = some (.int .i64 (theV p k)) ∧ w5.cell? ⟨G4, k, none⟩ = some (.int .i64 (untilV p time k)) ∧ w5.cell? ⟨G5, k, none⟩ = some (.int .i64 (untilV p (time + more) k)) ∧ Rng (theV p k)) := Lib.hid fun k hk =>
    ⟨Keeps.of_below h5 _ _ (Keeps.of_below h4 _ _ ((hA3.congr HU.out).cell hk)), Keeps.of_below h5 _ _ (hA4.cell hk), hA5.cell hk, (hs3 k hk).2⟩
  have HH := Lib.hid (And.intro h5' hwr)
  clear hA3 hA4 hA5 hs3 hs4 hs5 h2 h3 h3' h4 h4' h5 h5' hG3 hG4 hG5 hwr
  go_loopw [13] (fun vi wr => ∃ k : Nat, k ≤ p.length ∧ vi = .int .i64 k ∧ Below w5.heap.size w5 wr) (fun vi _ => p.length - (intOf vi).toNat)
  case atStart => exact ⟨0, by omega, rfl, Below.refl _ _⟩
  case round =>
    obtain ⟨k, hk, rfl, hbel⟩ := hrel
    by_cases hlt : k < p.length
    · obtain ⟨b, off, rfl, c0⟩ := HC.out w5 HH.out.1 k hlt
      obtain ⟨x3, x4, x5, hr⟩ := HV3.out k hlt
      replace c0 := Keeps.of_below hbel _ _ c0
      replace x3 := Keeps.of_below hbel _ _ x3
      replace x4 := Keeps.of_below hbel _ _ x4
      replace x5 := Keeps.of_below hbel _ _ x5
      have hki : (k : Int) < (p.length : Int) := by omega
      unfold untilV at x4 x5
      unfold Rng at hr
      generalize theV p k = x at *
      generalize (opn p k).time = t at *
      by_cases htt : time < t
      · rw [if_pos htt] at x4
        have hd1 : decide (t ≤ time) = false := by simp; omega
        have hd5 : decide (time < t) = true := by simpa using htt
        obtain ⟨a, ha⟩ : ∃ a : Int, a = -1 := ⟨_, rfl⟩
        rw [← ha] at x4
        have hd2 : (a == x) = false := beq_eq_false_iff_ne.2 (by omega)
        have hd6 : (a != -1) = false := by rw [ha]; rfl
        clear ha
        have hd3 : decide (x < 0) = false := by simp; omega
        have hd4 : decide (10007 ≤ x) = false := by simp; omega
        generalize (if time + more < t then -1 else x) = y at *
        go_wp2
        refine wp_region_quiet_lit (by kernel_rfl) (by kernel_rfl) ?_
        simp only [List.append]
        repeat (go_big_quiet_step (fail))
        refine wpQuiet_nil ?_
        intro _ hq1
        obtain ⟨nq, hq2⟩ := hq1
        subst hq2
        go_wp2
        go_roundw
        case rel => exact ⟨k + 1, by omega, by go_num, below_drewN' hbel _⟩
        case measure => simp [intOf]; omega
      · rw [if_neg htt] at x4
        rw [if_neg (by omega)] at x5
        have hd1 : decide (t ≤ time) = true := by simp; omega
        have hd5 : decide (time < t) = false := by simpa using htt
        have hd2 : (x != -1) = true := by rw [bne_iff_ne]; omega
        have hd3 : decide (x < 0) = false := by simp; omega
        have hd4 : decide (10007 ≤ x) = false := by simp; omega
        go_wp2
        go_quiet (fail)
        go_wp2
        go_roundw
        case rel => exact ⟨k + 1, by omega, by go_num, below_drewN' hbel _⟩
        case measure => simp [intOf]; omega
    · obtain rfl : k = p.length := by omega
      go_wp2_with (go_at_call 11; refine (HS.out _).mono ?_; rintro e w6 ⟨rfl, h6⟩)
      go_ret
      exact ⟨rfl, (HH.out.1.trans (hbel.mono HH.out.1.size)).trans (h6.mono (by have := HH.out.1.size; have := hbel.size; omega))⟩

/-- LAW 4. -/
theorem machGrows_any (p : List Opn) (v : Value) (time more : Int) (w : World) (hl : IsProg w v p) (hlp : p.length ≤ maxLen) (hls : ∀ o ∈ p, o.src.length ≤ maxLen) (wf : (Lit.int .u16 more).wf = true) :
    Calls Try.prog 4 #[v, .int .i64 time, .int .u16 more] w fun e w' => e = .returned (.bool true) ∧ Below w.heap.size w w' := by
  have hm : 0 ≤ more ∧ more ≤ 65535 := by
    simp [Lit.wf, IntKind.min, IntKind.max, IntKind.signed, IntKind.bits] at wf
    omega
  by_cases hw : wideP p = true
  · exact machGrows_out p v time more w hl hlp hls (.inl hw)
  have hw' : wideP p = false := by simpa using hw
  by_cases hok : okProg p = true
  · by_cases h1 : 1000000 < time
    · exact machGrows_out p v time more w hl hlp hls (.inr (.inr (.inl h1)))
    by_cases h2 : time < -1000000
    · exact machGrows_out p v time more w hl hlp hls (.inr (.inr (.inr h2)))
    by_cases hz : runE p = 0
    · exact machGrows_ok p v time more w hl hlp hls hw' (runE_zero hz) ⟨by omega, by omega⟩ hm
    · exact machGrows_err p v time more w hl hlp hls hw' hok ⟨by omega, by omega⟩ hm hz
  · exact machGrows_out p v time more w hl hlp hls (.inr (.inl (by simpa using hok)))
end Go.Proofs.Ytmjdmpapickgkaa
