import Derived.Test.YtlelbkljhbkjdaaD3
import Derived.Test.YtlelbkljhbkjdaaD1
import Derived.Lib.SlBytesConst
namespace Go.Proofs.Ytlelbkljhbkjdaa
open Go.RowKit Go.Kk

set_option maxHeartbeats 1000000 in
theorem Parts_abc {w : World} {v : Value} (h : Sb w v [97, 98, 99]) :
    Calls Try.prog 23 #[v] w fun e w' => ∃ v0 v1 v2, e = .returned (.tuple #[.agg #[v0, v1, v2], .int .i64 0]) ∧ Sb w' v0 [97, 99] ∧ Sb w' v1 [98] ∧ Sb w' v2 [3, 99] ∧ Below w.heap.size w w' := by
  have hA := fun o => h.byt (Byt.of_below (below_alloc w o))
  obtain ⟨g, o, kc, rfl, c⟩ := h.some (by simp)
  clear c
  go_enter Try.func23, Try.ntmps23
  go_wp2_with (go_at_call 36; refine (parts_abc (hA _)).mono ?_; rintro e w1 ⟨v0, v1, v2, rfl, hs0, hs1, hs2, hb1⟩; obtain ⟨b0, k0, rfl⟩ := hs0.shape; obtain ⟨b1, k1, rfl⟩ := hs1.shape; obtain ⟨b2, k2, rfl⟩ := hs2.shape; have hR1 := (hb1.block w.heap.size (by simp)).trans (heap_alloc_new w _); have r0 := cell_of_heap (i := 0) hR1 rfl; have r1 := cell_of_heap (i := 1) hR1 rfl; have r2 := cell_of_heap (i := 2) hR1 rfl; have r3 := frozen_of_heap (i := 0) hR1; have r4 := frozen_of_heap (i := 1) hR1; have r5 := frozen_of_heap (i := 2) hR1; have HR1 := Lib.hid hR1; clear hR1)
  have hB1 := Byt.set (i := 0) HR1.out (by decide) (Value.slice b0 ([97, 99] : List UInt8).length k0)
  have hR3 := hset_same (i := 0) (Value.slice b0 ([97, 99] : List UInt8).length k0) HR1.out
  have hB2 := Byt.set (i := 1) hR3 (by decide) (Value.slice b1 ([98] : List UInt8).length k1)
  have hR4 := hset_same (i := 1) (Value.slice b1 ([98] : List UInt8).length k1) hR3
  have hB3 := Byt.set (i := 2) hR4 (by decide) (Value.slice b2 ([3, 99] : List UInt8).length k2)
  have hBy := (hB1.trans hB2).trans hB3
  have hb2 := ((((below_alloc w _).trans (hb1.mono (by simp))).setCell (p := ⟨w.heap.size, 0, none⟩) (Nat.le_refl _) (Value.slice b0 ([97, 99] : List UInt8).length k0)).setCell (p := ⟨w.heap.size, 1, none⟩) (Nat.le_refl _) (Value.slice b1 ([98] : List UInt8).length k1)).setCell (p := ⟨w.heap.size, 2, none⟩) (Nat.le_refl _) (Value.slice b2 ([3, 99] : List UInt8).length k2)
  exact bodyPost_ret (v := .tuple #[.agg #[_, _, _], .int .i64 0]) (by simp [results, Try.results23, go_sem, r0, r1, r2]) rfl ⟨_, _, _, rfl, hs0.byt hBy, hs1.byt hBy, hs2.byt hBy, hb2⟩

set_option maxHeartbeats 1000000 in
theorem sane_any (w : World) : Calls Try.prog 4 #[] w fun e w' => e = .returned (.bool true) ∧ Below w.heap.size w w' := by
  have hs : Sb (w.alloc (.cells #[.int .u8 97, .int .u8 98, .int .u8 99] 5 (3, 4))) (.slice (some ⟨w.heap.size, 0, none⟩) 3 3) [97, 98, 99] :=
    .inr ⟨_, 0, 3, _, _, rfl, by decide, heap_alloc_new w _, fun j u hu => by simpa [B8] using hu⟩
  have kc := fun (w : World) (C : Array Value) (n c : Nat) => Lib.run_convert_bytes_const (P := Try.prog) w 27 5 C n c (by kernel_rfl) (by kernel_rfl)
  go_enter Try.func4, Try.ntmps4
  go_wp2_with (go_at_call 23; refine (Parts_abc hs).mono ?_; rintro e w1 ⟨v0, v1, v2, rfl, hs0, hs1, hs2, hb1⟩; obtain ⟨b0, k0, rfl⟩ := hs0.shape; obtain ⟨b1, k1, rfl⟩ := hs1.shape; obtain ⟨b2, k2, rfl⟩ := hs2.shape; have e0 : ∀ o, (convert 27 9 (.slice b0 2 k0)).run Try.prog (w1.alloc o) = .ok (.string ⟨#[97, 99]⟩) (w1.alloc o) := fun o => run_str (hs0.byt (Byt.of_below (below_alloc w1 o))); have e1 : ∀ o, (convert 27 9 (.slice b1 1 k1)).run Try.prog (w1.alloc o) = .ok (.string ⟨#[98]⟩) (w1.alloc o) := fun o => run_str (hs1.byt (Byt.of_below (below_alloc w1 o))); have e2 : ∀ o, (convert 27 9 (.slice b2 2 k2)).run Try.prog (w1.alloc o) = .ok (.string ⟨#[3, 99]⟩) (w1.alloc o) := fun o => run_str (hs2.byt (Byt.of_below (below_alloc w1 o))))
  go_ret
  exact ⟨rfl, ((below_alloc _ _).trans (hb1.mono (by simp))).alloc (by have := hb1.size; simp at this; omega) _⟩
end Go.Proofs.Ytlelbkljhbkjdaa
