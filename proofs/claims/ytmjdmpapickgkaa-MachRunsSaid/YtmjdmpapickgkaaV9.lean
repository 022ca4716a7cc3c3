import Derived.Test.YtmjdmpapickgkaaV8
namespace Go.Proofs.Ytmjdmpapickgkaa
open Go.RowKit Go.Kk

/-- the program of the sanity check -/
def saneP (h0 h1 : Value) : List Opn := [⟨0, 0, 0, 0, 1, h0, [⟨-1, 5, 0⟩]⟩, ⟨1, 0, 0, 0, 2, h1, [⟨0, 0, 0⟩, ⟨-1, 3, 0⟩]⟩]
theorem sane_runs (h0 h1 : Value) : Runs (saneP h0 h1) := ⟨rfl, rfl, rfl⟩
theorem sane_vals (h0 h1 : Value) {V : Nat → Int} (h : ∀ i, i < 2 → IsValAt (saneP h0 h1) V i) : V 0 = 5 ∧ V 1 = 8 := by
  have e0 := h 0 (by omega)
  have e1 := h 1 (by omega)
  have k0 : V 0 = 5 := by
    unfold IsValAt at e0
    rw [e0]
    simp [opn, saneP, appl, opVal, srcN, srcV]
  refine ⟨k0, ?_⟩
  unfold IsValAt at e1
  rw [e1]
  simp [opn, saneP, appl, opVal, srcN, srcV, k0]

theorem cells_of {w : World} {b : Nat} {cs : Array Value} {e : TypeId} {f : Nat × Nat} (h : w.heap[b]? = some (.cells cs e f)) {xs : List Value} (hx : cs.toList = xs) : Cells w b 0 xs := fun j u hu => by
  rw [Nat.zero_add]
  exact cell_of_heap h (by subst hx; simpa using hu)
abbrev saneW (w : World) : World := (((w.alloc (.cells #[.int .i64 (-1), .int .i64 5, .int .i64 0] 52)).alloc (.cells #[.int .i64 0, .int .i64 0, .int .i64 0, .int .i64 (-1), .int .i64 3, .int .i64 0] 52)).alloc
      (.cells #[.int .i64 0, .int .i64 0, .int .i64 0, .int .i64 0, .int .i64 1, .slice (some ⟨w.heap.size, 0, none⟩) 1 1, .int .i64 1, .int .i64 0, .int .i64 0, .int .i64 0, .int .i64 2, .slice (some ⟨w.heap.size + 1, 0, none⟩) 2 2] 37))
theorem sane_prog (w : World) : IsProg (saneW w) (.slice (some ⟨w.heap.size + 1 + 1, 0, none⟩) 2 2) (saneP (.slice (some ⟨w.heap.size, 0, none⟩) 1 1) (.slice (some ⟨w.heap.size + 1, 0, none⟩) 2 2)) := by
  have b2 : (saneW w).heap[w.heap.size + 1 + 1]? = some (.cells #[.int .i64 0, .int .i64 0, .int .i64 0, .int .i64 0, .int .i64 1, .slice (some ⟨w.heap.size, 0, none⟩) 1 1, .int .i64 1, .int .i64 0, .int .i64 0, .int .i64 0, .int .i64 2, .slice (some ⟨w.heap.size + 1, 0, none⟩) 2 2] 37) := newH _ _ _ (by simp)
  have b1 : (saneW w).heap[w.heap.size + 1]? = some (.cells #[.int .i64 0, .int .i64 0, .int .i64 0, .int .i64 (-1), .int .i64 3, .int .i64 0] 52) := by
    rw [heap_alloc_old _ _ (by simp)]; exact newH _ _ _ (by simp)
  have b0 : (saneW w).heap[w.heap.size]? = some (.cells #[.int .i64 (-1), .int .i64 5, .int .i64 0] 52) := by
    rw [heap_alloc_old _ _ (by simp; omega), heap_alloc_old _ _ (by simp)]; exact newH _ _ _ (by simp)
  refine ⟨⟨rfl, .inr (.inl ⟨_, 0, _, rfl, Nat.le_refl _, cells_of b2 rfl⟩)⟩, fun o ho => ?_⟩
  simp only [saneP, List.mem_cons, List.not_mem_nil, or_false] at ho
  rcases ho with rfl | rfl
  · exact ⟨rfl, .inr (.inl ⟨_, 0, _, rfl, Nat.le_refl _, cells_of b0 rfl⟩)⟩
  · exact ⟨rfl, .inr (.inl ⟨_, 0, _, rfl, Nat.le_refl _, cells_of b1 rfl⟩)⟩

set_option maxHeartbeats 1000000 in
theorem sane_any (w : World) : Calls Try.prog 11 #[] w fun e w' => e = .returned (.bool true) ∧ Below w.heap.size w w' := by
  have HR := Lib.hid (Run_ok _ _ _ (sane_prog w) (sane_runs _ _) (by simp [saneP]))
  have hb : Below w.heap.size w (saneW w) := ((below_alloc2 w _ _).alloc (by simp; omega) _)
  have HB := Lib.hid (hb)
  clear hb
  unfold UntilPost at HR
  rw [show ∀ h0 h1, (saneP h0 h1).length = 2 from fun _ _ => rfl] at HR
  go_enter Try.func11, Try.ntmps11
  go_wp2_with (first | (go_at_call 12; refine HR.out.mono ?_; rintro e w1 ⟨G, rfl, hG, hA, hs, h1⟩; have hv := sane_vals _ _ (fun i hi => (hs i hi).1); have hA2 : ArrV w1 G 2 _ := hA.congr (untilV_all (sane_runs _ _).ok); have c0 := hA2.cell (show 0 < 2 by omega); have c1 := hA2.cell (show 1 < 2 by omega); rw [hv.1] at c0; rw [hv.2] at c1; clear hv hs hA hA2))
  go_ret
  exact ⟨rfl, HB.out.trans (h1.mono HB.out.size)⟩
end Go.Proofs.Ytmjdmpapickgkaa
