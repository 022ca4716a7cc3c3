import Derived.Test.YtmjdmpapickgkaaA
namespace Go.Proofs.Ytmjdmpapickgkaa
open Go.RowKit Go.Kk

set_option maxHeartbeats 400000 in
theorem needs_any (k : Int) (w : World) : Calls Try.prog 56 #[.int .i64 k] w fun e w' => e = .returned (.tuple #[.int .i64 (need k), doesV k]) ∧ w' = w := by
  go_enter Try.func56, Try.ntmps56
  go_wp2
  all_goals
    go_ret2
    simp_all [need, doesV]

/-- is the source valid among n operations -/
def okSrc (n : Int) (s : Src) : Bool := if s.op = -1 then bt 0 s.val 10006 && decide (s.hops = 0) else bt 0 s.op (n - 1) && decide (s.val = 0) && bt 0 s.hops 12

set_option maxHeartbeats 400000 in
theorem source_any (s : Src) (n : Int) (hn : -1000000 ≤ n ∧ n ≤ 1000000) (w : World) : Calls Try.prog 61 #[s.v, .int .i64 n] w fun e w' => e = .returned (.bool (okSrc n s)) ∧ Below w.heap.size w w' := by
  unfold Src.v
  by_cases h0 : s.op = -1
  · have ho : okSrc n s = (bt 0 s.val 10006 && decide (s.hops = 0)) := by unfold okSrc; rw [if_pos h0]
    rw [ho]
    by_cases h1 : bt 0 s.val 10006 = true
    all_goals
      go_enter Try.func61, Try.ntmps61
      go_wp2_with (first | (go_at_call 48; refine (between_any _ _ _ _).mono ?_; rintro e w1 ⟨rfl, rfl⟩))
      go_ret
      exact ⟨by by_cases hh : s.hops = 0 <;> simp [h1, hh], below_alloc _ _⟩
  · have ho : okSrc n s = (bt 0 s.op (n - 1) && decide (s.val = 0) && bt 0 s.hops 12) := by unfold okSrc; rw [if_neg h0]
    rw [ho]
    by_cases h1 : bt 0 s.op (n - 1) = true
    · by_cases h2 : s.val = 0
      all_goals
        go_enter Try.func61, Try.ntmps61
        go_wp2_with (first | (go_at_call 48; refine (between_any _ _ _ _).mono ?_; rintro e w1 ⟨rfl, rfl⟩))
        go_ret
        exact ⟨by simp [h1, h2], below_alloc _ _⟩
    · go_enter Try.func61, Try.ntmps61
      go_wp2_with (first | (go_at_call 48; refine (between_any _ _ _ _).mono ?_; rintro e w1 ⟨rfl, rfl⟩))
      go_ret
      exact ⟨by simp [h1], below_alloc _ _⟩

/-- the closure of operation: not a valid source -/
theorem notSource_any (s : Src) (n : Int) (hn : -1000000 ≤ n ∧ n ≤ 1000000) (b : Nat) (w : World) (hb : w.cell? ⟨b, 0, none⟩ = some (.int .i64 n)) :
    Calls Try.prog 60 #[s.v, .pointer (some ⟨b, 0, none⟩)] w fun e w' => e = .returned (.bool (! okSrc n s)) ∧ Below w.heap.size w w' := by
  have HS := fun w => source_any s n hn w
  unfold Src.v at *
  have hb' := fun o => Keeps.of_below (below_alloc w o) _ _ hb
  go_enter Try.func60, Try.ntmps60
  go_wp2_with (first | (go_at_call 61; refine (HS _).mono ?_; rintro e w1 ⟨rfl, h1⟩))
  go_ret
  exact ⟨rfl, (below_alloc _ _).trans (h1.mono (by simp))⟩
end Go.Proofs.Ytmjdmpapickgkaa
