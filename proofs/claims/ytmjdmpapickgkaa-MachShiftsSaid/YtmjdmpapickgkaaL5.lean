import Derived.Test.YtmjdmpapickgkaaL4
namespace Go.Proofs.Ytmjdmpapickgkaa
open Go.RowKit Go.Kk

theorem ShiftPost.prog {p : List Opn} {by' : Int} {w : World} {e : Ending} {w' : World} (h : ShiftPost p by' w e w') : ProgPost p.length (shiftTo p by' p.length) 0 w e w' := by
  obtain ⟨v', q, h1, h2, h3, h4⟩ := h
  exact ⟨v', q, h1, h2.prog, h3, h4⟩
theorem shiftTo_src (p : List Opn) (by' : Int) (k i : Nat) : (shiftTo p by' k i).src = (opn p i).src := by unfold shiftTo shiftO; split <;> rfl

/-- the two Shifts -/
theorem shifts_agree {p : List Opn} {v : Value} {w : World} (by' : Int) (hn : Narrow p) (h60 : p.length ≤ 60 ∨ 4000 < p.length) (hk : ∀ w1, Below w.heap.size w w1 → IsProg w1 v p) :
    ∃ (n : Nat) (f : Nat → Opn) (ee : Int), (n ≤ 1000000 ∧ ∀ i, i < n → (f i).src.length ≤ 1000000) ∧ Hid (∀ w1, Below w.heap.size w w1 → Calls Try.prog 24 #[v, .int .i64 by'] w1 (ProgPost n f ee w1)) ∧ Hid (∀ w1, Below w.heap.size w w1 → Calls Try.prog 32 #[v, .int .i64 by'] w1 (ProgPost n f ee w1)) := by
  by_cases hok : okProg p = true
  · by_cases h0 : p.length = 0
    · refine ⟨0, opn p, 0, ⟨by omega, fun i hi => by omega⟩, Lib.hid fun w1 hb => (Shift_none p v by' w1 (hk w1 hb) hok h0).mono fun _ _ h => h.prog _, Lib.hid fun w1 hb => (refShift_none p v by' w1 (hk w1 hb) hok h0).mono fun _ _ h => ?_⟩
      have h2 := h.prog
      rw [h0, shiftTo_zero] at h2
      exact h2
    · by_cases hr : inRange p by'
      · refine ⟨p.length, shiftTo p by' p.length, 0, ⟨hn.1, fun i hi => by rw [shiftTo_src]; exact opn_src hn i hi⟩, Lib.hid fun w1 hb => (Shift_ok p v by' w1 (hk w1 hb) hok (by omega) (runs_60 h60 hok) hr).mono fun _ _ h => h.prog, Lib.hid fun w1 hb => (refShift_any p v by' w1 (hk w1 hb) hok (by omega)).mono fun _ _ h => ?_⟩
        rcases h with ⟨_, h⟩ | ⟨h, _⟩
        · exact h.prog
        · exact absurd hr h
      · refine ⟨0, opn p, 2, ⟨by omega, fun i hi => by omega⟩, Lib.hid fun w1 hb => (Shift_arg p v by' w1 (hk w1 hb) hok (by omega) (runs_60 h60 hok) hr).mono fun _ _ h => h.prog _, Lib.hid fun w1 hb => (refShift_any p v by' w1 (hk w1 hb) hok (by omega)).mono fun _ _ h => ?_⟩
        rcases h with ⟨h, _⟩ | ⟨_, h⟩
        · exact absurd h hr
        · exact h.prog _
  · have hok' : okProg p = false := by simpa using hok
    exact ⟨0, opn p, 80, ⟨by omega, fun i hi => by omega⟩, Lib.hid fun w1 hb => (Shift_bad p v by' w1 (hk w1 hb) hn hok').mono fun _ _ h => h.prog _, Lib.hid fun w1 hb => (refShift_bad p v by' w1 (hk w1 hb) hn hok').mono fun _ _ h => h.prog _⟩

set_option maxHeartbeats 1000000 in
theorem machShifts_any (p : List Opn) (v : Value) (by' : Int) (w : World) (hl : IsProg w v p) (hlp : p.length ≤ maxLen) (hls : ∀ o ∈ p, o.src.length ≤ maxLen) :
    Calls Try.prog 9 #[v, .int .i64 by'] w fun e w' => e = .returned (.bool true) ∧ Below w.heap.size w w' := by
  have HW := Lib.hid (wide_any p v w hl hlp hls)
  have HS := Lib.hid sane_any
  by_cases hw : wideP p = true
  · rw [hw] at HW
    clear hl hlp hls hw
    go_enter Try.func9, Try.ntmps9
    go_wp2_with (first
      | (go_at_call 10; refine HW.out.mono ?_; rintro e w1 ⟨rfl, hw1⟩; subst hw1)
      | (go_at_call 11; refine (HS.out _).mono ?_; rintro e w1 ⟨rfl, h1⟩))
    go_ret
    exact ⟨rfl, h1⟩
  have hw' : wideP p = false := by simpa using hw
  obtain ⟨hn, h60⟩ := not_wide hw'
  rw [hw'] at HW
  have hk : ∀ w1, Below w.heap.size w w1 → IsProg w1 v p := fun w1 hb => hl.keeps (Keeps.of_below hb)
  obtain ⟨n, f, ee, hnf, H24, H32⟩ := shifts_agree by' hn h60 hk
  obtain ⟨s, es, H33, H34⟩ : ∃ (s es : Int), Hid (∀ w1, Below w.heap.size w w1 → Calls Try.prog 33 #[v] w1 (NumPost s es w1)) ∧ Hid (∀ w1, Below w.heap.size w w1 → Calls Try.prog 34 #[v] w1 (NumPost s es w1)) := by
    by_cases hok : okProg p = true
    · exact ⟨_, 0, Lib.hid fun w1 hb => Traffic_ok p v w1 (hk w1 hb) hok, Lib.hid fun w1 hb => refTraffic_ok p v w1 (hk w1 hb) hok⟩
    · have hok' : okProg p = false := by simpa using hok
      exact ⟨0, 80, Lib.hid fun w1 hb => Traffic_bad p v w1 (hk w1 hb) hn hok', Lib.hid fun w1 hb => refTraffic_bad p v w1 (hk w1 hb) hn hok'⟩
  unfold ProgPost at H24 H32
  unfold NumPost at H33 H34
  have HLL := Lib.hid hnf
  clear hl hlp hls hw hw' hn h60 hk hnf
  go_enter Try.func9, Try.ntmps9
  go_wp2_with (first
    | (go_at_call 10; refine HW.out.mono ?_; rintro e w1 ⟨rfl, hw1⟩; subst hw1)
    | (go_at_call 24; refine (H24.out _ (Below.refl _ _)).mono ?_; rintro e w1 ⟨v1, q1, rfl, hp1, hl1, h1⟩)
    | (go_at_call 32; refine (H32.out _ h1).mono ?_; rintro e w2 ⟨v2, q2, rfl, hp2, hl2, h2⟩; have h2' := h1.trans (h2.mono h1.size))
    | (go_at_call 33; refine (H33.out _ h2').mono ?_; rintro e w3 ⟨rfl, h3⟩; have h3' := h2'.trans (h3.mono h2'.size))
    | (go_at_call 34; refine (H34.out _ h3').mono ?_; rintro e w4 ⟨rfl, h4⟩; have h4' := h3'.trans (h4.mono h3'.size); have HV := Lib.hid (And.intro (hp1.keeps ((Keeps.of_below h2).trans ((Keeps.of_below h3).trans (Keeps.of_below h4)))) (And.intro (hp2.keeps ((Keeps.of_below h3).trans (Keeps.of_below h4))) (And.intro hl1 hl2))); clear hp1 hp2 hl1 hl2)
    | (go_at_call 31; refine (sameOps_any q1 q2 _ _ _ HV.out.1 HV.out.2.1 (HV.out.2.2.1.same HV.out.2.2.2) (like_narrow HV.out.2.2.1 HLL.out.1 HLL.out.2)).mono ?_; rintro e w8 ⟨rfl, h8⟩; have h8' := h4'.trans (h8.mono h4'.size))
    | (go_at_call 11; refine (HS.out _).mono ?_; rintro e w9 ⟨rfl, h9⟩))
  go_ret
  exact ⟨rfl, h8'.trans (h9.mono h8'.size)⟩
end Go.Proofs.Ytmjdmpapickgkaa
