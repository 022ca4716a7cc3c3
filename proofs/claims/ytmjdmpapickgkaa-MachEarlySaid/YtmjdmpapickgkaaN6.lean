/- Plain facts: a program with other times. No walk. -/
import Derived.Test.YtmjdmpapickgkaaZf
namespace Go.Proofs.Ytmjdmpapickgkaa
open Go.RowKit Go.Kk

theorem OpOk.ok {n : Nat} {o : Opn} (h : OpOk n o) : okOp n o = true := by
  have h1 := h.t; have h2 := h.x; have h3 := h.y; have h4 := h.u; have h5 := h.k; have h6 := h.len; have h7 := h.src
  unfold okOp
  simp only [Bool.and_eq_true, Bool.not_eq_true', decide_eq_true_eq, decide_eq_false_iff_not, bt_iff, List.any_eq_false]
  refine ⟨⟨⟨⟨fun e => ?_, h6⟩, h1, h4⟩, h2, h3⟩, fun s hs => ?_⟩
  · unfold need at e
    repeat' split at e
    all_goals omega
  · simp only [Bool.not_eq_false]
    rcases h7 s hs with ⟨a, b, c, d⟩ | ⟨a, b, c, d, e⟩
    · rw [okSrc_const a]
      simp only [Bool.and_eq_true, decide_eq_true_eq, bt_iff]
      exact ⟨⟨b, c⟩, d⟩
    · rw [okSrc_op (by omega)]
      simp only [Bool.and_eq_true, decide_eq_true_eq, bt_iff]
      exact ⟨⟨⟨a, by omega⟩, c⟩, d, e⟩
theorem okProg_of {q : List Opn} (hn : q.length ≤ 4000) (h : ∀ i, i < q.length → OpOk q.length (opn q i)) : okProg q = true := by
  unfold okProg
  simp only [Bool.and_eq_true, decide_eq_true_eq, Bool.not_eq_true', List.any_eq_false, Bool.not_eq_false]
  refine ⟨hn, fun o ho => ?_⟩
  obtain ⟨i, hi, rfl⟩ := List.getElem_of_mem ho
  have := (h i hi).ok
  rwa [opn_eq hi] at this

/-- an operation of a program like f -/
theorem Like.opn {n : Nat} {f : Nat → Opn} {q : List Opn} (h : Like n f q) (i : Nat) (hi : i < n) : (opn q i).time = (f i).time ∧ (opn q i).c0 = (f i).c0 ∧ (opn q i).c1 = (f i).c1 ∧ (opn q i).unit = (f i).unit ∧ (opn q i).kind = (f i).kind ∧ (opn q i).src = (f i).src := by
  have hi' : i < q.length := by rw [h.len]; exact hi
  rw [opn_eq hi']
  exact bare_time (h.at' i hi')

section
variable {p q : List Opn} {E : Nat → Int}

theorem atT_timeOf (h : Like p.length (atT p E) q) (i : Nat) (hi : i < p.length) : timeOf q i = E i := by
  rw [timeOf_opn (by rw [h.len]; exact hi), (h.opn i hi).1]; rfl
theorem atT_ok (h : Like p.length (atT p E) q) (hok : okProg p = true) (hE : ∀ i, i < p.length → -100000 ≤ E i ∧ E i ≤ 100000) : okProg q = true := by
  refine okProg_of (by rw [h.len]; exact okProg_len hok) fun i hi => ?_
  rw [h.len] at hi
  have ho := okProg_op hok i hi
  rw [← opn_eq hi] at ho
  obtain ⟨e0, e1, e2, e3, e4, e5⟩ := h.opn i hi
  rw [h.len]
  refine ⟨by rw [e0]; exact hE i hi, by rw [e1]; exact ho.x, by rw [e2]; exact ho.y, by rw [e3]; exact ho.u, by rw [e4]; exact ho.k, by rw [e4, e5]; exact ho.len, by rw [e5]; exact ho.src⟩
/-- what comes when -/
theorem atT_arr (h : Like p.length (atT p E) q) (hok : okProg p = true) (i : Nat) (hi : i < p.length) : arr (timeOf q) (opn q i).src = arr E (opn p i).src := by
  rw [(h.opn i hi).2.2.2.2.2]
  show arr (timeOf q) (opn p i).src = _
  refine arr_congr fun s hs h0 => ?_
  have ho := okProg_op hok i hi
  rw [← opn_eq hi] at ho
  exact atT_timeOf h _ (by rcases ho.src s hs with h | h <;> omega)
theorem waitL_nil_iff {q : List Opn} : waitL q = [] ↔ ∀ i, i < q.length → waitsB (timeOf q) (opn q i) = false := by
  unfold waitL
  rw [List.filter_eq_nil_iff]
  constructor
  · intro h i hi; simpa using h i (by simpa using hi)
  · intro h i hi; simpa using h i (by simpa using hi)
/-- the values do not depend on the times -/
theorem atT_val (h : Like p.length (atT p E) q) (V : Nat → Int) (i : Nat) (hi : i < p.length) : IsValAt q V i ↔ IsValAt p V i := by
  obtain ⟨_, _, _, _, e4, e5⟩ := h.opn i hi
  unfold IsValAt
  rw [e4, e5]
  rfl

/-! the earliest times -/
theorem early_le (hok : okProg p = true) (hr : Ready2 p) (hE : ∀ i, i < p.length → EAt p E i) (hn : 0 < p.length) : ∀ i, i < p.length → 0 ≤ E i ∧ E i ≤ timeOf p i - mnT p p.length := by
  suffices H : ∀ (m : Nat) (i : Nat), i < p.length → (timeOf p i + 100000).toNat < m → 0 ≤ E i ∧ E i ≤ timeOf p i - mnT p p.length from fun i hi => H _ i hi (Nat.lt_succ_self _)
  intro m
  induction m with
  | zero => intro i _ h; omega
  | succ m ih =>
    intro i hi hm
    have e1 := hE i hi
    unfold EAt at e1
    rw [e1]
    have hmn := mnT_le p p.length i hi
    refine earl_in (by omega) fun s hs h0 => ?_
    obtain ⟨h1, h2⟩ := hr i hi s hs h0
    have := timeOf_bd hok i hi
    have := timeOf_bd hok _ h1
    have h3 := ih _ h1 (by omega)
    unfold comes
    omega
theorem early_waits (h : Like p.length (atT p E) q) (hok : okProg p = true) (hE : ∀ i, i < p.length → EAt p E i) : waitL q = [] := by
  rw [waitL_nil_iff]
  intro i hi
  rw [h.len] at hi
  unfold waitsB
  rw [atT_arr h hok i hi, (h.opn i hi).1]
  have := hE i hi
  unfold EAt earl at this
  cases ha : arr E (opn p i).src with
  | none => rfl
  | some u =>
    rw [ha] at this
    simp only [Option.getD_some] at this
    show decide (E i < u) = false
    simp only [decide_eq_false_iff_not]
    omega
/-- 0; or -1, where nothing is taken: then the time is 0 -/
theorem early_slack (h : Like p.length (atT p E) q) (hok : okProg p = true) (hE : ∀ i, i < p.length → EAt p E i) (i : Nat) (hi : i < p.length) : slackI (timeOf q) (opn q i) = 0 ∨ (slackI (timeOf q) (opn q i) = -1 ∧ E i = 0) := by
  have := hE i hi
  unfold EAt earl at this
  unfold slackI
  rw [atT_arr h hok i hi, (h.opn i hi).1]
  show (match arr E (opn p i).src with | none => -1 | some u => if E i < u then E i - u - 1 else E i - u) = 0 ∨ _
  cases ha : arr E (opn p i).src with
  | none => rw [ha] at this; exact .inr ⟨rfl, by simpa using this⟩
  | some u =>
    rw [ha] at this
    simp only [Option.getD_some] at this
    left
    simp only
    rw [if_neg (by omega)]
    omega
end

/-- a run ends well, or two operations meet -/
theorem runE_two {p : List Opn} (hok : okProg p = true) (hw : waitL p = []) : runE p = 0 ∨ runE p = 81 := by
  unfold runE
  rw [if_pos hok, if_pos hw]
  split <;> simp
end Go.Proofs.Ytmjdmpapickgkaa
