import Derived.Test.YtmjdmpapickgkaaW6
import Derived.Test.YtmjdmpapickgkaaN3
namespace Go.Proofs.Ytmjdmpapickgkaa
open Go.RowKit Go.Kk

theorem mul_rng {a b : Int} (ha : Rng a) (hb : Rng b) : 0 ≤ a * b ∧ a * b ≤ 100120036 := by
  refine ⟨Int.mul_nonneg ha.1 hb.1, ?_⟩
  have := Int.mul_le_mul ha.2 hb.2 hb.1 (by omega)
  omega

set_option maxHeartbeats 400000 in
theorem does1 (a b c : Int) (ha : Rng a) (hb : Rng b) (hc : Rng c) (w : World) : Calls Try.prog 68 #[.int .i64 a, .int .i64 b, .int .i64 c] w fun e w' => e = .returned (.int .i64 (opVal 1 a b c)) ∧ w' = w := by
  have h1 := mul_rng ha hb
  have h2 := mul_rng hb hc
  unfold Rng at ha hb hc
  have ho : opVal 1 a b c = a := by simp [opVal]
  rw [ho]
  clear ho
  go_enter Try.func68, Try.ntmps68
  go_wp2
  go_ret
  exact ⟨rfl, rfl⟩

set_option maxHeartbeats 400000 in
theorem does2 (a b c : Int) (ha : Rng a) (hb : Rng b) (hc : Rng c) (w : World) : Calls Try.prog 69 #[.int .i64 a, .int .i64 b, .int .i64 c] w fun e w' => e = .returned (.int .i64 (opVal 2 a b c)) ∧ w' = w := by
  have h1 := mul_rng ha hb
  have h2 := mul_rng hb hc
  unfold Rng at ha hb hc
  have ho : opVal 2 a b c = a + b := by simp [opVal]
  rw [ho]
  clear ho
  go_enter Try.func69, Try.ntmps69
  go_wp2
  go_ret
  exact ⟨rfl, rfl⟩

set_option maxHeartbeats 400000 in
theorem does3 (a b c : Int) (ha : Rng a) (hb : Rng b) (hc : Rng c) (w : World) : Calls Try.prog 70 #[.int .i64 a, .int .i64 b, .int .i64 c] w fun e w' => e = .returned (.int .i64 (opVal 3 a b c)) ∧ w' = w := by
  have h1 := mul_rng ha hb
  have h2 := mul_rng hb hc
  unfold Rng at ha hb hc
  have ho : opVal 3 a b c = a - b + 10007 := by simp [opVal]
  rw [ho]
  clear ho
  go_enter Try.func70, Try.ntmps70
  go_wp2
  go_ret
  exact ⟨rfl, rfl⟩

set_option maxHeartbeats 400000 in
theorem does4 (a b c : Int) (ha : Rng a) (hb : Rng b) (hc : Rng c) (w : World) : Calls Try.prog 71 #[.int .i64 a, .int .i64 b, .int .i64 c] w fun e w' => e = .returned (.int .i64 (opVal 4 a b c)) ∧ w' = w := by
  have h1 := mul_rng ha hb
  have h2 := mul_rng hb hc
  unfold Rng at ha hb hc
  have ho : opVal 4 a b c = a * b := by simp [opVal]
  rw [ho]
  clear ho
  go_enter Try.func71, Try.ntmps71
  go_wp2
  go_ret
  exact ⟨rfl, rfl⟩

set_option maxHeartbeats 400000 in
theorem does5 (a b c : Int) (ha : Rng a) (hb : Rng b) (hc : Rng c) (w : World) : Calls Try.prog 72 #[.int .i64 a, .int .i64 b, .int .i64 c] w fun e w' => e = .returned (.int .i64 (opVal 5 a b c)) ∧ w' = w := by
  have h1 := mul_rng ha hb
  have h2 := mul_rng hb hc
  unfold Rng at ha hb hc
  have ho : opVal 5 a b c = a + b * c := by simp [opVal]
  rw [ho]
  clear ho
  go_enter Try.func72, Try.ntmps72
  go_wp2
  go_ret
  exact ⟨rfl, rfl⟩

set_option maxHeartbeats 400000 in
theorem does6 (a b c : Int) (ha : Rng a) (hb : Rng b) (hc : Rng c) (w : World) : Calls Try.prog 73 #[.int .i64 a, .int .i64 b, .int .i64 c] w fun e w' => e = .returned (.int .i64 (opVal 6 a b c)) ∧ w' = w := by
  have h1 := mul_rng ha hb
  have h2 := mul_rng hb hc
  unfold Rng at ha hb hc
  have ho : opVal 6 a b c = max a b := by simp [opVal]
  rw [ho]
  clear ho
  go_enter Try.func73, Try.ntmps73
  go_wp2
  go_ret
  exact ⟨rfl, rfl⟩

set_option maxHeartbeats 400000 in
theorem does7 (a b c : Int) (ha : Rng a) (hb : Rng b) (hc : Rng c) (w : World) : Calls Try.prog 74 #[.int .i64 a, .int .i64 b, .int .i64 c] w fun e w' => e = .returned (.int .i64 (opVal 7 a b c)) ∧ w' = w := by
  have h1 := mul_rng ha hb
  have h2 := mul_rng hb hc
  unfold Rng at ha hb hc
  have ho : opVal 7 a b c = min a b := by simp [opVal]
  rw [ho]
  clear ho
  go_enter Try.func74, Try.ntmps74
  go_wp2
  go_ret
  exact ⟨rfl, rfl⟩

theorem opVal_rng {k a b c : Int} (ha : Rng a) (hb : Rng b) (hc : Rng c) : 0 ≤ opVal k a b c ∧ opVal k a b c ≤ 200000000 := by
  have h1 := mul_rng ha hb
  have h2 := mul_rng hb hc
  unfold Rng at ha hb hc
  unfold opVal
  repeat' split
  all_goals omega
end Go.Proofs.Ytmjdmpapickgkaa
