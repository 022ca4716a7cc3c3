import Derived.Test.YtmjdmpapickgkaaV2
import Derived.Test.YtmjdmpapickgkaaN4
import Derived.Deep.QuietTactic
import Derived.BigQuiet
namespace Go.Proofs.Ytmjdmpapickgkaa
open Go.RowKit Go.Kk

theorem list1 {l : List Int} (h : l.length = 1) : ∃ a, l = [a] := by
  match l, h with
  | [a], _ => exact ⟨a, rfl⟩
theorem list2 {l : List Int} (h : l.length = 2) : ∃ a b, l = [a, b] := by
  match l, h with
  | [a, b], _ => exact ⟨a, b, rfl⟩
theorem list3 {l : List Int} (h : l.length = 3) : ∃ a b c, l = [a, b, c] := by
  match l, h with
  | [a, b, c], _ => exact ⟨a, b, c, rfl⟩

set_option maxHeartbeats 400000 in
theorem Apply1 (l : List Int) (v : Value) (w : World) (hl : IsInts w v l) (hlen : l.length = 1) (hr : ∀ x ∈ l, Rng x) : Calls Try.prog 67 #[.int .i64 1, v] w fun e w' => e = .returned (.int .i64 (appl 1 (vat l 0) (vat l 1) (vat l 2))) ∧ Below w.heap.size w w' := by
  obtain ⟨x0, rfl⟩ := list1 hlen
  obtain ⟨b, off, cap, rfl, hcap, hc⟩ := Sl.at hl (by simp)
  have c0 := hc 0 (.int .i64 x0) rfl
  have r0 := hr x0 (by simp)
  simp only [Nat.add_zero] at c0
  unfold Rng at r0
  have hv : appl 1 (vat [x0] 0) (vat [x0] 1) (vat [x0] 2) = (x0) % 10007 := by simp [vat, appl, opVal]
  rw [hv]
  clear hv hl hr hc hlen
  go_enter Try.func67, Try.ntmps67
  go_wp2
  go_ret
  exact ⟨rfl, Below.refl _ _⟩

set_option maxHeartbeats 400000 in
theorem Apply2 (l : List Int) (v : Value) (w : World) (hl : IsInts w v l) (hlen : l.length = 2) (hr : ∀ x ∈ l, Rng x) : Calls Try.prog 67 #[.int .i64 2, v] w fun e w' => e = .returned (.int .i64 (appl 2 (vat l 0) (vat l 1) (vat l 2))) ∧ Below w.heap.size w w' := by
  obtain ⟨x0, x1, rfl⟩ := list2 hlen
  obtain ⟨b, off, cap, rfl, hcap, hc⟩ := Sl.at hl (by simp)
  have c0 := hc 0 (.int .i64 x0) rfl
  have r0 := hr x0 (by simp)
  have c1 := hc 1 (.int .i64 x1) rfl
  have r1 := hr x1 (by simp)
  simp only [Nat.add_zero] at c0
  have m1 := mul_rng r0 r1
  unfold Rng at r0 r1
  have hv : appl 2 (vat [x0, x1] 0) (vat [x0, x1] 1) (vat [x0, x1] 2) = (x0 + x1) % 10007 := by simp [vat, appl, opVal]
  rw [hv]
  clear hv hl hr hc hlen
  have y1 : IntKind.i64.wrap (x0 + x1) = x0 + x1 := IntWalk.i64_in _ (by omega)
  have y3 : 0 ≤ x0 + x1 := by omega
  go_enter Try.func67, Try.ntmps67
  go_wp2
  go_quiet (fail)
  clear y1 y3
  go_wp2
  go_ret
  exact ⟨rfl, below_drewN' (Below.refl _ _) _⟩

set_option maxHeartbeats 400000 in
theorem Apply3 (l : List Int) (v : Value) (w : World) (hl : IsInts w v l) (hlen : l.length = 2) (hr : ∀ x ∈ l, Rng x) : Calls Try.prog 67 #[.int .i64 3, v] w fun e w' => e = .returned (.int .i64 (appl 3 (vat l 0) (vat l 1) (vat l 2))) ∧ Below w.heap.size w w' := by
  obtain ⟨x0, x1, rfl⟩ := list2 hlen
  obtain ⟨b, off, cap, rfl, hcap, hc⟩ := Sl.at hl (by simp)
  have c0 := hc 0 (.int .i64 x0) rfl
  have r0 := hr x0 (by simp)
  have c1 := hc 1 (.int .i64 x1) rfl
  have r1 := hr x1 (by simp)
  simp only [Nat.add_zero] at c0
  have m1 := mul_rng r0 r1
  unfold Rng at r0 r1
  have hv : appl 3 (vat [x0, x1] 0) (vat [x0, x1] 1) (vat [x0, x1] 2) = (x0 - x1 + 10007) % 10007 := by simp [vat, appl, opVal]
  rw [hv]
  clear hv hl hr hc hlen
  have y1 : IntKind.i64.wrap (x0 - x1) = x0 - x1 := IntWalk.i64_in _ (by omega)
  have y2 : IntKind.i64.wrap (x0 - x1 + 10007) = x0 - x1 + 10007 := IntWalk.i64_in _ (by omega)
  have y3 : 0 ≤ x0 - x1 + 10007 := by omega
  go_enter Try.func67, Try.ntmps67
  go_wp2
  go_quiet (fail)
  clear y1 y2 y3
  go_wp2
  go_ret
  exact ⟨rfl, below_drewN' (Below.refl _ _) _⟩

set_option maxHeartbeats 400000 in
theorem Apply4 (l : List Int) (v : Value) (w : World) (hl : IsInts w v l) (hlen : l.length = 2) (hr : ∀ x ∈ l, Rng x) : Calls Try.prog 67 #[.int .i64 4, v] w fun e w' => e = .returned (.int .i64 (appl 4 (vat l 0) (vat l 1) (vat l 2))) ∧ Below w.heap.size w w' := by
  obtain ⟨x0, x1, rfl⟩ := list2 hlen
  obtain ⟨b, off, cap, rfl, hcap, hc⟩ := Sl.at hl (by simp)
  have c0 := hc 0 (.int .i64 x0) rfl
  have r0 := hr x0 (by simp)
  have c1 := hc 1 (.int .i64 x1) rfl
  have r1 := hr x1 (by simp)
  simp only [Nat.add_zero] at c0
  have m1 := mul_rng r0 r1
  unfold Rng at r0 r1
  have hv : appl 4 (vat [x0, x1] 0) (vat [x0, x1] 1) (vat [x0, x1] 2) = (x0 * x1) % 10007 := by simp [vat, appl, opVal]
  rw [hv]
  clear hv hl hr hc hlen
  have y1 : IntKind.i64.wrap (x0 * x1) = x0 * x1 := IntWalk.i64_in _ (by omega)
  go_enter Try.func67, Try.ntmps67
  go_wp2
  go_quiet (fail)
  clear y1
  go_wp2
  go_ret
  exact ⟨rfl, below_drewN' (Below.refl _ _) _⟩

set_option maxHeartbeats 400000 in
theorem Apply5 (l : List Int) (v : Value) (w : World) (hl : IsInts w v l) (hlen : l.length = 3) (hr : ∀ x ∈ l, Rng x) : Calls Try.prog 67 #[.int .i64 5, v] w fun e w' => e = .returned (.int .i64 (appl 5 (vat l 0) (vat l 1) (vat l 2))) ∧ Below w.heap.size w w' := by
  obtain ⟨x0, x1, x2, rfl⟩ := list3 hlen
  obtain ⟨b, off, cap, rfl, hcap, hc⟩ := Sl.at hl (by simp)
  have c0 := hc 0 (.int .i64 x0) rfl
  have r0 := hr x0 (by simp)
  have c1 := hc 1 (.int .i64 x1) rfl
  have r1 := hr x1 (by simp)
  have c2 := hc 2 (.int .i64 x2) rfl
  have r2 := hr x2 (by simp)
  simp only [Nat.add_zero] at c0
  have m1 := mul_rng r0 r1
  have m2 := mul_rng r1 r2
  unfold Rng at r0 r1 r2
  have hv : appl 5 (vat [x0, x1, x2] 0) (vat [x0, x1, x2] 1) (vat [x0, x1, x2] 2) = (x0 + x1 * x2) % 10007 := by simp [vat, appl, opVal]
  rw [hv]
  clear hv hl hr hc hlen
  have y1 : IntKind.i64.wrap (x1 * x2) = x1 * x2 := IntWalk.i64_in _ (by omega)
  have y2 : IntKind.i64.wrap (x0 + x1 * x2) = x0 + x1 * x2 := IntWalk.i64_in _ (by omega)
  have y3 : 0 ≤ x0 + x1 * x2 := by omega
  go_enter Try.func67, Try.ntmps67
  go_wp2
  go_quiet (fail)
  clear y1 y2 y3
  go_wp2
  go_ret
  exact ⟨rfl, below_drewN' (Below.refl _ _) _⟩

set_option maxHeartbeats 400000 in
theorem Apply6 (l : List Int) (v : Value) (w : World) (hl : IsInts w v l) (hlen : l.length = 2) (hr : ∀ x ∈ l, Rng x) : Calls Try.prog 67 #[.int .i64 6, v] w fun e w' => e = .returned (.int .i64 (appl 6 (vat l 0) (vat l 1) (vat l 2))) ∧ Below w.heap.size w w' := by
  obtain ⟨x0, x1, rfl⟩ := list2 hlen
  obtain ⟨b, off, cap, rfl, hcap, hc⟩ := Sl.at hl (by simp)
  have c0 := hc 0 (.int .i64 x0) rfl
  have r0 := hr x0 (by simp)
  have c1 := hc 1 (.int .i64 x1) rfl
  have r1 := hr x1 (by simp)
  simp only [Nat.add_zero] at c0
  have m1 := mul_rng r0 r1
  unfold Rng at r0 r1
  have hv : appl 6 (vat [x0, x1] 0) (vat [x0, x1] 1) (vat [x0, x1] 2) = (max x0 x1) % 10007 := by simp [vat, appl, opVal]
  rw [hv]
  clear hv hl hr hc hlen
  go_enter Try.func67, Try.ntmps67
  go_wp2
  go_quiet (fail)
  go_wp2
  go_ret
  exact ⟨rfl, below_drewN' (Below.refl _ _) _⟩

set_option maxHeartbeats 400000 in
theorem Apply7 (l : List Int) (v : Value) (w : World) (hl : IsInts w v l) (hlen : l.length = 2) (hr : ∀ x ∈ l, Rng x) : Calls Try.prog 67 #[.int .i64 7, v] w fun e w' => e = .returned (.int .i64 (appl 7 (vat l 0) (vat l 1) (vat l 2))) ∧ Below w.heap.size w w' := by
  obtain ⟨x0, x1, rfl⟩ := list2 hlen
  obtain ⟨b, off, cap, rfl, hcap, hc⟩ := Sl.at hl (by simp)
  have c0 := hc 0 (.int .i64 x0) rfl
  have r0 := hr x0 (by simp)
  have c1 := hc 1 (.int .i64 x1) rfl
  have r1 := hr x1 (by simp)
  simp only [Nat.add_zero] at c0
  have m1 := mul_rng r0 r1
  unfold Rng at r0 r1
  have hv : appl 7 (vat [x0, x1] 0) (vat [x0, x1] 1) (vat [x0, x1] 2) = (min x0 x1) % 10007 := by simp [vat, appl, opVal]
  rw [hv]
  clear hv hl hr hc hlen
  go_enter Try.func67, Try.ntmps67
  go_wp2
  go_quiet (fail)
  go_wp2
  go_ret
  exact ⟨rfl, below_drewN' (Below.refl _ _) _⟩

theorem Apply_any (k : Int) (l : List Int) (v : Value) (w : World) (hl : IsInts w v l) (hk : 1 ≤ k ∧ k ≤ 7) (hlen : (l.length : Int) = need k) (hr : ∀ x ∈ l, Rng x) : Calls Try.prog 67 #[.int .i64 k, v] w fun e w' => e = .returned (.int .i64 (appl k (vat l 0) (vat l 1) (vat l 2))) ∧ Below w.heap.size w w' := by
  have h7 : k = 1 ∨ k = 2 ∨ k = 3 ∨ k = 4 ∨ k = 5 ∨ k = 6 ∨ k = 7 := by omega
  rcases h7 with rfl | rfl | rfl | rfl | rfl | rfl | rfl
  · exact Apply1 l v w hl (by simp [need] at hlen; omega) hr
  · exact Apply2 l v w hl (by simp [need] at hlen; omega) hr
  · exact Apply3 l v w hl (by simp [need] at hlen; omega) hr
  · exact Apply4 l v w hl (by simp [need] at hlen; omega) hr
  · exact Apply5 l v w hl (by simp [need] at hlen; omega) hr
  · exact Apply6 l v w hl (by simp [need] at hlen; omega) hr
  · exact Apply7 l v w hl (by simp [need] at hlen; omega) hr
end Go.Proofs.Ytmjdmpapickgkaa
