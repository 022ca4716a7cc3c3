import Derived.Test.YtmjdmpapickgkaaL0
namespace Go.Proofs.Ytmjdmpapickgkaa
open Go.RowKit Go.Kk

theorem not_wide {p : List Opn} (h : wideP p = false) : Narrow p ∧ (p.length ≤ 60 ∨ 4000 < p.length) := by
  unfold wideP at h
  simp only [Bool.or_eq_false_iff, List.any_eq_false, decide_eq_true_eq, Bool.and_eq_false_iff, decide_eq_false_iff_not] at h
  obtain ⟨⟨h1, h2⟩, h3⟩ := h
  refine ⟨⟨by omega, fun o ho => by have := h1 o ho; omega⟩, by omega⟩
theorem runs_60 {p : List Opn} (hw : p.length ≤ 60 ∨ 4000 < p.length) (hok : okProg p = true) : p.length ≤ 60 := by have := okProg_len hok; omega

set_option maxHeartbeats 1000000 in
theorem machRuns_any (p : List Opn) (v : Value) (time : Int) (w : World) (hl : IsProg w v p) (hlp : p.length ≤ maxLen) (hls : ∀ o ∈ p, o.src.length ≤ maxLen) :
    Calls Try.prog 3 #[v, .int .i64 time] w fun e w' => e = .returned (.bool true) ∧ Below w.heap.size w w' := by
  have HW := Lib.hid (wide_any p v w hl hlp hls)
  have HS := Lib.hid sane_any
  by_cases hw : wideP p = true
  · rw [hw] at HW
    clear hl hlp hls hw
    go_enter Try.func3, Try.ntmps3
    go_wp2_with (first
      | (go_at_call 10; refine HW.out.mono ?_; rintro e w1 ⟨rfl, rfl⟩)
      | (go_at_call 11; refine (HS.out _).mono ?_; rintro e w1 ⟨rfl, h1⟩))
    go_ret
    exact ⟨rfl, h1⟩
  have hw' : wideP p = false := by simpa using hw
  obtain ⟨hn, h60⟩ := not_wide hw'
  rw [hw'] at HW
  by_cases hz : runE p = 0
  · have hp := runE_zero hz
    have h60' := runs_60 h60 hp.ok
    have H12 := Lib.hid (fun w1 (hb : Below w.heap.size w w1) => Run_ok p v w1 (hl.keeps (Keeps.of_below hb)) hp h60')
    have H13 := Lib.hid (fun w1 (hb : Below w.heap.size w w1) => refRun_ok p v w1 (hl.keeps (Keeps.of_below hb)) hp h60')
    have H14 := Lib.hid (fun w1 (hb : Below w.heap.size w w1) => until_ok p v time w1 (hl.keeps (Keeps.of_below hb)) hp h60')
    have H15 := Lib.hid (fun w1 (hb : Below w.heap.size w w1) => refUntil_ok p v time w1 (hl.keeps (Keeps.of_below hb)) hp h60')
    have HP := Lib.hid hp
    unfold UntilPost at H12 H14
    unfold RowPost at H13 H15
    clear hl hlp hls hw hw' hn h60 hz hp
    have tok := Lib.hid trivial
    go_enter Try.func3, Try.ntmps3
    go_wp2_with (first
      | (go_at_call 10; refine HW.out.mono ?_; rintro e w1 ⟨rfl, rfl⟩)
      | (go_at_call 12; refine (H12.out _ (Below.refl _ _)).mono ?_; rintro e w1 ⟨G1, rfl, hG1, hA1, hs1, h1⟩)
      | (go_at_call 13; refine (H13.out _ h1).mono ?_; rintro e w2 ⟨G2, rfl, hG2, hA2, h2⟩; have h2' := h1.trans (h2.mono h1.size))
      | (go_at_call 14; refine (H14.out _ h2').mono ?_; rintro e w3 ⟨G3, rfl, hG3, hA3, hs3, h3⟩; have h3' := h2'.trans (h3.mono h2'.size))
      | (go_at_call 15; refine (H15.out _ h3').mono ?_; rintro e w4 ⟨G4, rfl, hG4, hA4, h4⟩; have h4' := h3'.trans (h4.mono h3'.size); have HI := Lib.hid (And.intro (((hA1.congr (untilV_all HP.out.ok)).ints).keeps ((Keeps.of_below h2).trans ((Keeps.of_below h3).trans (Keeps.of_below h4)))) (And.intro (hA2.ints.keeps ((Keeps.of_below h3).trans (Keeps.of_below h4))) (And.intro (hA3.ints.keeps (Keeps.of_below h4)) hA4.ints))); clear hA1 hA2 hA3 hA4 hs1 hs3)
      | (have _t := tok; go_at_call 16; refine (same_any _ _ _ _ HI.out.1 HI.out.2.1 (by simp [maxLen]; omega)).mono ?_; rintro e w5 ⟨rfl, h5⟩; clear tok _t)
      | (go_at_call 16; refine (same_any _ _ _ _ (HI.out.2.2.1.keeps (Keeps.of_below h5)) (HI.out.2.2.2.keeps (Keeps.of_below h5)) (by simp [maxLen]; omega)).mono ?_; rintro e w6 ⟨rfl, h6⟩)
      | (go_at_call 11; refine (HS.out _).mono ?_; rintro e w7 ⟨rfl, h7⟩))
    go_ret
    have h5' := h4'.trans (h5.mono h4'.size)
    have h6' := h5'.trans (h6.mono h5'.size)
    exact ⟨rfl, h6'.trans (h7.mono h6'.size)⟩
  · have H12 := Lib.hid (fun w1 (hb : Below w.heap.size w w1) => Run_err p v w1 (hl.keeps (Keeps.of_below hb)) hn hz)
    have H13 := Lib.hid (fun w1 (hb : Below w.heap.size w w1) => refRun_err p v w1 (hl.keeps (Keeps.of_below hb)) hn hz)
    have H14 := Lib.hid (fun w1 (hb : Below w.heap.size w w1) => until_err p v time w1 (hl.keeps (Keeps.of_below hb)) hn hz)
    have H15 := Lib.hid (fun w1 (hb : Below w.heap.size w w1) => refUntil_err p v time w1 (hl.keeps (Keeps.of_below hb)) hn hz)
    have H16 := Lib.hid (fun w1 => same_any [] (.slice none 0 0) (.slice none 0 0) w1 (isInts_nil w1) (isInts_nil w1) (by simp))
    unfold ErrPost at H12 H13 H14 H15
    clear hl hlp hls hw hw' hn h60 hz
    generalize runE p = er at *
    have tok := Lib.hid trivial
    go_enter Try.func3, Try.ntmps3
    go_wp2_with (first
      | (go_at_call 10; refine HW.out.mono ?_; rintro e w1 ⟨rfl, rfl⟩)
      | (go_at_call 12; refine (H12.out _ (Below.refl _ _)).mono ?_; rintro e w1 ⟨rfl, h1⟩)
      | (go_at_call 13; refine (H13.out _ h1).mono ?_; rintro e w2 ⟨rfl, h2⟩; have h2' := h1.trans (h2.mono h1.size))
      | (go_at_call 14; refine (H14.out _ h2').mono ?_; rintro e w3 ⟨rfl, h3⟩; have h3' := h2'.trans (h3.mono h2'.size))
      | (go_at_call 15; refine (H15.out _ h3').mono ?_; rintro e w4 ⟨rfl, h4⟩; have h4' := h3'.trans (h4.mono h3'.size))
      | (have _t := tok; go_at_call 16; refine (H16.out _).mono ?_; rintro e w5 ⟨rfl, h5⟩; clear tok _t)
      | (go_at_call 16; refine (H16.out _).mono ?_; rintro e w6 ⟨rfl, h6⟩)
      | (go_at_call 11; refine (HS.out _).mono ?_; rintro e w7 ⟨rfl, h7⟩))
    go_ret
    have h5' := h4'.trans (h5.mono h4'.size)
    have h6' := h5'.trans (h6.mono h5'.size)
    exact ⟨rfl, h6'.trans (h7.mono h6'.size)⟩
end Go.Proofs.Ytmjdmpapickgkaa
