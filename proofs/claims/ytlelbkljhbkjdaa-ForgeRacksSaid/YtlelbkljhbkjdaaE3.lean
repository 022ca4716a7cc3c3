import Derived.Test.YtlelbkljhbkjdaaE2
namespace Go.Proofs.Ytlelbkljhbkjdaa
open Go.RowKit Go.Kk

set_option maxRecDepth 100000 in
set_option maxHeartbeats 4000000 in
theorem racks_nil {w : World} (base : Option Addr) (cap : Nat) : Calls Try.prog 3 #[.slice base 0 cap] w fun e w' => e = .returned (.bool true) ∧ Below w.heap.size w w' := by
  go_enter Try.func3, Try.ntmps3
  go_wp2_with (first | (go_at_call 4; refine (sane_any _).mono ?_; rintro e w1 ⟨rfl, hb⟩) | (go_at_call 5; go_in))
  refine wp_loop_rounds 1 ?_
  rw [rounds_succ]
  go_wp2_with (first | (go_at_call 4; refine (sane_any _).mono ?_; rintro e w1 ⟨rfl, hb⟩) | fail)
  go_ret
  exact ⟨rfl, ((below_alloc2 _ _ _).alloc (by simp; omega) _).trans (hb.mono (by simp; omega))⟩
end Go.Proofs.Ytlelbkljhbkjdaa
