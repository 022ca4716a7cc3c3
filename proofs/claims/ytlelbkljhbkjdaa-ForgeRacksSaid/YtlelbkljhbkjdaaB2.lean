import Derived.Test.YtlelbkljhbkjdaaB1
namespace Go.Proofs.Ytlelbkljhbkjdaa
open Go.RowKit Go.Kk

set_option maxHeartbeats 400000 in
theorem all_any {w : World} {v1 v2 : Value} {xs ys : List UInt8} (h1 : Sb w v1 xs) (h2 : Sb w v2 ys) (hn : xs.length + ys.length ≤ 1000000) :
    Calls Try.prog 30 #[.agg #[v1, v2]] w fun e w' => ∃ v, e = .returned v ∧ w'.ownsRow w.heap.size 5 1 v (xs.length + ys.length) (B8 (xs ++ ys)) ∧ Below w.heap.size w w' := by
  have s1 := h1.sl
  have s2 := h2.sl
  obtain ⟨b1, c1, rfl⟩ := h1.shape
  obtain ⟨b2, c2, rfl⟩ := h2.shape
  have ha := B8_append xs ys
  have HA := Lib.hid ha
  clear ha h1 h2
  go_enter Try.func30, Try.ntmps30
  go_wp2_with (go_at_call 27; refine (concat2 _ _ _ _ _ _ _ _ _ _ (newA _ _ _ _ _ _ (by simp) rfl) (newA _ _ _ _ _ _ (by simp) rfl) (s1.keeps (Keeps.of_below (below_alloc2 _ _ _))) (s2.keeps (Keeps.of_below (below_alloc2 _ _ _))) (B8_one _) (B8_one _) hn).mono ?_; rintro e w1 ⟨v, rfl, hown, hbel⟩)
  go_ret
  rw [← HA.out] at hown
  exact ⟨_, rfl, own_mono hown (by simp; omega), (below_alloc2 _ _ _).trans (hbel.mono (by simp; omega))⟩

end Go.Proofs.Ytlelbkljhbkjdaa
