import Derived.Test.YtmjdmpapickgkaaZb
import Derived.Test.YtmjdmpapickgkaaZf
import Derived.Test.YtmjdmpapickgkaaZc
namespace Go.Proofs.Ytmjdmpapickgkaa
open Go.RowKit Go.Kk

theorem ErrPost.list {er : Int} {w : World} {e : Ending} {w' : World} (h : ErrPost er w e w') : ListPost [] er w e w' := ⟨_, h.1, isInts_nil _, h.2⟩

/-- a program like f, and an error -/
def ProgPost (n : Nat) (f : Nat → Opn) (er : Int) (w : World) (e : Ending) (w' : World) : Prop := ∃ v' q, e = .returned (.tuple #[v', .int .i64 er]) ∧ IsProg w' v' q ∧ Like n f q ∧ Below w.heap.size w w'
theorem ErrPost.prog {er : Int} {w : World} {e : Ending} {w' : World} (f : Nat → Opn) (h : ErrPost er w e w') : ProgPost 0 f er w e w' := ⟨_, [], h.1, ⟨Sl.nil _ 6, by simp⟩, ⟨rfl, fun i hi => by simp at hi⟩, h.2⟩

theorem like_narrow {n : Nat} {f : Nat → Opn} {q : List Opn} (h : Like n f q) (hn : n ≤ 1000000) (hf : ∀ i, i < n → (f i).src.length ≤ 1000000) : Narrow q := by
  refine ⟨by rw [h.len]; exact hn, fun o ho => ?_⟩
  obtain ⟨i, hi, rfl⟩ := List.getElem_of_mem ho
  have := (bare_time (h.at' i hi)).2.2.2.2.2
  rw [this]
  exact hf i (by rw [← h.len]; exact hi)
theorem opn_src {p : List Opn} (h : Narrow p) (i : Nat) (hi : i < p.length) : (opn p i).src.length ≤ 1000000 := by rw [opn_eq hi]; exact h.2 _ (List.getElem_mem _)

set_option maxHeartbeats 1000000 in
theorem machSlacks_any (p : List Opn) (v : Value) (w : World) (hl : IsProg w v p) (hlp : p.length ≤ maxLen) (hls : ∀ o ∈ p, o.src.length ≤ maxLen) :
    Calls Try.prog 7 #[v] w fun e w' => e = .returned (.bool true) ∧ Below w.heap.size w w' := by
  have HW := Lib.hid (wide_any p v w hl hlp hls)
  have HS := Lib.hid sane_any
  by_cases hw : wideP p = true
  · rw [hw] at HW
    clear hl hlp hls hw
    go_enter Try.func7, Try.ntmps7
    go_wp2_with (first
      | (go_at_call 10; refine HW.out.mono ?_; rintro e w1 ⟨rfl, hw1⟩; subst hw1)
      | (go_at_call 11; refine (HS.out _).mono ?_; rintro e w1 ⟨rfl, h1⟩))
    go_ret
    exact ⟨rfl, h1⟩
  have hw' : wideP p = false := by simpa using hw
  obtain ⟨hn, h60⟩ := not_wide hw'
  rw [hw'] at HW
  have hk : ∀ w1, Below w.heap.size w w1 → IsProg w1 v p := fun w1 hb => hl.keeps (Keeps.of_below hb)
  -- the two Slacks
  obtain ⟨l, er, hll, H25, H26⟩ : ∃ (l : List Int) (er : Int), l.length ≤ maxLen ∧ Hid (∀ w1, Below w.heap.size w w1 → Calls Try.prog 25 #[v] w1 (ListPost l er w1)) ∧ Hid (∀ w1, Below w.heap.size w w1 → Calls Try.prog 26 #[v] w1 (ListPost l er w1)) := by
    by_cases hok : okProg p = true
    · by_cases hwt : waitL p = []
      · exact ⟨slackL p, 0, by simp [slackL]; exact hlp, Lib.hid fun w1 hb => Slack_ok p v w1 (hk w1 hb) hok hwt, Lib.hid fun w1 hb => refSlack_ok p v w1 (hk w1 hb) hok hwt⟩
      · have he := readyE_wait hok hwt
        exact ⟨[], 82, by simp, Lib.hid fun w1 hb => (he ▸ Slack_err p v w1 (hk w1 hb) hn (by rw [he]; omega)).mono fun _ _ h => h.list, Lib.hid fun w1 hb => (refSlack_wait p v w1 (hk w1 hb) hok hwt).mono fun _ _ h => h.list⟩
    · have hok' : okProg p = false := by simpa using hok
      have he := readyE_bad hok'
      exact ⟨[], 80, by simp, Lib.hid fun w1 hb => (he ▸ Slack_err p v w1 (hk w1 hb) hn (by rw [he]; omega)).mono fun _ _ h => h.list, Lib.hid fun w1 hb => (refSlack_bad p v w1 (hk w1 hb) hn hok').mono fun _ _ h => h.list⟩
  -- the two Spans
  obtain ⟨a, b, es, H27, H28⟩ : ∃ (a b es : Int), Hid (∀ w1, Below w.heap.size w w1 → Calls Try.prog 27 #[v] w1 (SpanPost a b es w1)) ∧ Hid (∀ w1, Below w.heap.size w w1 → Calls Try.prog 28 #[v] w1 (SpanPost a b es w1)) := by
    by_cases h0 : spanE p = 0
    · obtain ⟨hok, hpos⟩ := spanE_zero h0
      exact ⟨_, _, 0, Lib.hid fun w1 hb => Span_ok p v w1 (hk w1 hb) hok hpos (runs_60 h60 hok), Lib.hid fun w1 hb => refSpan_ok p v w1 (hk w1 hb) hok hpos⟩
    · exact ⟨0, 0, spanE p, Lib.hid fun w1 hb => Span_err p v w1 (hk w1 hb) hn h0, Lib.hid fun w1 hb => refSpan_err p v w1 (hk w1 hb) hn h0⟩
  -- the two Earlies
  obtain ⟨n, f, ee, hnf, H29, H30⟩ : ∃ (n : Nat) (f : Nat → Opn) (ee : Int), (n ≤ 1000000 ∧ ∀ i, i < n → (f i).src.length ≤ 1000000) ∧ Hid (∀ w1, Below w.heap.size w w1 → Calls Try.prog 29 #[v] w1 (ProgPost n f ee w1)) ∧ Hid (∀ w1, Below w.heap.size w w1 → Calls Try.prog 30 #[v] w1 (ProgPost n f ee w1)) := by
    by_cases hok : okProg p = true
    · by_cases hwt : waitL p = []
      · have h60' := runs_60 h60 hok
        refine ⟨p.length, atT p (theE p), 0, ⟨hn.1, fun i hi => opn_src hn i hi⟩, Lib.hid fun w1 hb => (Early_ok p v w1 (hk w1 hb) hok hwt h60').mono fun _ _ ⟨v', q, h1, h2, h3, _, h4⟩ => ⟨v', q, h1, h2.prog, h3, h4⟩, Lib.hid fun w1 hb => (refEarly_ok p v w1 (hk w1 hb) hok hwt h60').mono fun _ _ ⟨v', q, B, h1, h2, h3, h4⟩ => ⟨v', q, h1, h2.ownP.prog, h3, h4⟩⟩
      · have he := readyE_wait hok hwt
        exact ⟨0, opn p, 82, ⟨by omega, fun i hi => by omega⟩, Lib.hid fun w1 hb => (he ▸ Early_err p v w1 (hk w1 hb) hn (by rw [he]; omega)).mono fun _ _ h => h.prog _, Lib.hid fun w1 hb => (refEarly_wait p v w1 (hk w1 hb) hok hwt).mono fun _ _ h => h.prog _⟩
    · have hok' : okProg p = false := by simpa using hok
      have he := readyE_bad hok'
      exact ⟨0, opn p, 80, ⟨by omega, fun i hi => by omega⟩, Lib.hid fun w1 hb => (he ▸ Early_err p v w1 (hk w1 hb) hn (by rw [he]; omega)).mono fun _ _ h => h.prog _, Lib.hid fun w1 hb => (refEarly_bad p v w1 (hk w1 hb) hn hok').mono fun _ _ h => h.prog _⟩
  unfold ListPost at H25 H26
  unfold SpanPost at H27 H28
  unfold ProgPost at H29 H30
  have HLL := Lib.hid (And.intro hll hnf)
  clear hl hlp hls hw hw' hn h60 hk hll hnf
  go_enter Try.func7, Try.ntmps7
  go_wp2_with (first
    | (go_at_call 10; refine HW.out.mono ?_; rintro e w1 ⟨rfl, hw1⟩; subst hw1)
    | (go_at_call 25; refine (H25.out _ (Below.refl _ _)).mono ?_; rintro e w1 ⟨v1, rfl, hv1, h1⟩)
    | (go_at_call 26; refine (H26.out _ h1).mono ?_; rintro e w2 ⟨v2, rfl, hv2, h2⟩; have h2' := h1.trans (h2.mono h1.size))
    | (go_at_call 27; refine (H27.out _ h2').mono ?_; rintro e w3 ⟨rfl, h3⟩; have h3' := h2'.trans (h3.mono h2'.size))
    | (go_at_call 28; refine (H28.out _ h3').mono ?_; rintro e w4 ⟨rfl, h4⟩; have h4' := h3'.trans (h4.mono h3'.size))
    | (go_at_call 29; refine (H29.out _ h4').mono ?_; rintro e w5 ⟨v5, q5, rfl, hp5, hl5, h5⟩; have h5' := h4'.trans (h5.mono h4'.size))
    | (go_at_call 30; refine (H30.out _ h5').mono ?_; rintro e w6 ⟨v6, q6, rfl, hp6, hl6, h6⟩; have h6' := h5'.trans (h6.mono h5'.size); have HV := Lib.hid (And.intro (hv1.keeps ((Keeps.of_below h2).trans ((Keeps.of_below h3).trans ((Keeps.of_below h4).trans ((Keeps.of_below h5).trans (Keeps.of_below h6)))))) (And.intro (hv2.keeps ((Keeps.of_below h3).trans ((Keeps.of_below h4).trans ((Keeps.of_below h5).trans (Keeps.of_below h6))))) (And.intro (hp5.keeps (Keeps.of_below h6)) (And.intro hp6 (And.intro hl5 hl6))))); clear hv1 hv2 hp5 hp6 hl5 hl6)
    | (go_at_call 16; refine (same_any l _ _ _ HV.out.1 HV.out.2.1 HLL.out.1).mono ?_; rintro e w7 ⟨rfl, h7⟩; have h7' := h6'.trans (h7.mono h6'.size))
    | (go_at_call 31; refine (sameOps_any q5 q6 _ _ _ (HV.out.2.2.1.keeps (Keeps.of_below h7)) (HV.out.2.2.2.1.keeps (Keeps.of_below h7)) (HV.out.2.2.2.2.1.same HV.out.2.2.2.2.2) (like_narrow HV.out.2.2.2.2.1 HLL.out.2.1 HLL.out.2.2)).mono ?_; rintro e w8 ⟨rfl, h8⟩; have h8' := h7'.trans (h8.mono h7'.size))
    | (go_at_call 11; refine (HS.out _).mono ?_; rintro e w9 ⟨rfl, h9⟩))
  go_ret
  exact ⟨rfl, h8'.trans (h9.mono h8'.size)⟩
end Go.Proofs.Ytmjdmpapickgkaa
