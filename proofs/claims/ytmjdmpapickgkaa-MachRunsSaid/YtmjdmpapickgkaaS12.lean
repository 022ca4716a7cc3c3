import Derived.Test.YtmjdmpapickgkaaS11
namespace Go.Proofs.Ytmjdmpapickgkaa
open Go.RowKit Go.Kk Go.Sort
variable {w0 w : World} {G C n : Nat} {d : Array Nat} {T : Nat → Int}
set_option maxHeartbeats 400000 in
theorem sortStable_any (N : Nat) (h : SX w0 w G d) (hc : CmpOk w0 G C n T) (hall : AllLt d n) (hN : d.size = N) (hs : N ≤ 60) :
    Calls Try.prog 64 #[rowV G N, cmpV C] w fun e w' => e = .returned (.tuple #[]) ∧ ∃ d', SX w0 w' G d' ∧ Merged T 0 N d d' := by
  have HX := Lib.hid (stable_any N h hc hall hN hs)
  clear h hc
  go_enter Try.func64, Try.ntmps64
  go_wp2_with (first | (go_at_call 76; refine HX.out.mono ?_; rintro ex w1 ⟨rfl, d3, hS3, hM⟩))
  go_end0
  exact ⟨rfl, d3, hS3, hM⟩
end Go.Proofs.Ytmjdmpapickgkaa
