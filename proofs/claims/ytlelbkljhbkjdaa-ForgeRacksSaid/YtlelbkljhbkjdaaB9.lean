import Derived.Test.YtlelbkljhbkjdaaB8
namespace Go.Proofs.Ytlelbkljhbkjdaa
open Go.RowKit Go.Kk

theorem below_of_drew {B : Nat} {w w' : World} (h : Below B w.drew w') : Below B w w' := ⟨h.os, h.tape, h.output, h.size, h.block⟩
theorem Sb.drew {w : World} {v : Value} {bs : List UInt8} (h : Sb w v bs) : Sb w.drew v bs := h

set_option maxHeartbeats 1000000 in
theorem copy_any {w : World} {R D : Nat} {S : St} (h : RackIs w R D S) :
    Calls Try.prog 18 #[.pointer (some ⟨R, 0, none⟩)] w fun e w' => ∃ R' D' S', e = .returned (.pointer (some ⟨R', 0, none⟩)) ∧ RackIs w' R' D' S' ∧ (∀ d, d < 3 → S'.sf d = S.sf d ∧ S'.lo d = S.lo d) ∧ S'.down = S.down ∧ S'.armed = S.armed ∧
      w.heap.size ≤ R' ∧ w.heap.size ≤ D' ∧ Below w.heap.size w w' := by
  obtain ⟨life, hR⟩ := h.rack
  have c0 := cell_of_heap (i := 0) hR rfl
  have c1 := cell_of_heap (i := 1) hR rfl
  have c2 := cell_of_heap (i := 2) hR rfl
  have c3 := cell_of_heap (i := 3) hR rfl
  have hRs := heap_lt hR
  clear hR
  go_enter Try.func18, Try.ntmps18
  go_wp2_with (first | (go_at_call 32; refine (none_any h).mono ?_; rintro e w1 ⟨rfl, rfl⟩))
  go_loopw [18] (fun i wr => ∃ k : Nat, k ≤ 3 ∧ i = .int .i64 k ∧ RackIs wr w.heap.size (w.heap.size + 1) (partS S k) ∧ Below w.heap.size w wr) (fun i _ => 3 - (intOf i).toNat)
  case atStart =>
    refine ⟨0, by omega, rfl, ⟨⟨life, ?_⟩, ⟨_, _, _, _, _, _, ?_, Sb.nil _, Sb.nil _, Sb.nil _, Sb.nil _, Sb.nil _, Sb.nil _⟩, by simp [partS], h.armed⟩, below_alloc2 _ _ _⟩
    · rw [Below.heap_alloc _ _ _ (by simp)]
      exact heap_alloc_new _ _
    · have := heap_alloc_new (w.alloc (Obj.cells #[Value.pointer (some ⟨w.heap.size + 1, 0, none⟩), Value.int IntKind.i64 S.armed, Value.bool S.down, Value.int IntKind.i64 life] 50)) (Obj.cells #[Value.slice none 0 0, Value.slice none 0 0, Value.slice none 0 0, Value.slice none 0 0, Value.slice none 0 0, Value.slice none 0 0] 48)
      simpa using this
  case round =>
    obtain ⟨k, hk, rfl, hr, hb⟩ := hrel
    by_cases hlt : k < 3
    · obtain ⟨cs, v1, v2, hD, g1, g2, hsz, hx, hy⟩ := h.at hlt
      have hbd := h.bound k hlt
      have cA := cell_of_heap ((hb.block D (heap_lt hD)).trans hD) g1
      have cB := cell_of_heap ((hb.block D (heap_lt hD)).trans hD) g2
      have hxw := hx.byt (Byt.of_below hb)
      have hyw := hy.byt (Byt.of_below hb)
      obtain ⟨b1, k1, rfl⟩ := hx.shape
      obtain ⟨b2, k2, rfl⟩ := hy.shape
      obtain ⟨cs', u1, u2, hD', gg1, gg2, hsz', hx', hy'⟩ := hr.at hlt
      have cA' := cell_of_heap hD' gg1
      have cB' := cell_of_heap hD' gg2
      have fA := frozen_of_heap (i := k * 2) hD'
      have fB := frozen_of_heap (i := k * 2 + 1) hD'
      obtain ⟨life', hR'⟩ := hr.rack
      have r0 := cell_of_heap (i := 0) hR' rfl
      have l1 := heap_lt hD'
      have l2 := heap_lt hR'
      have cAx := fun x => Keeps.of_below (below_alloc wr x) _ _ cA
      have cBx := fun x => Keeps.of_below (below_alloc wr x) _ _ cB
      clear hD hD' hR' hx hy
      go_wp2
      go_region
      go_wp2
      have hbW := below_new wr (Obj.cells #[Value.slice b1 (S.sf k).length k1, Value.slice b2 (S.lo k).length k2] 47)
      have m0 := new0 wr (Value.slice b1 (S.sf k).length k1) (Value.slice b2 (S.lo k).length k2) 47
      have m1 := new1 wr (Value.slice b1 (S.sf k).length k1) (Value.slice b2 (S.lo k).length k2) 47
      have hsW := size_new wr (Obj.cells #[Value.slice b1 (S.sf k).length k1, Value.slice b2 (S.lo k).length k2] 47)
      generalize (wr.alloc (Obj.cells #[Value.slice b1 (S.sf k).length k1, Value.slice b2 (S.lo k).length k2] 47)).drew = W at *
      have r0W := Keeps.of_below hbW _ _ r0
      have cAW := Keeps.of_below hbW _ _ cA'
      have cBW := Keeps.of_below hbW _ _ cB'
      have fAW := (hbW.frozen (p := ⟨w.heap.size + 1, k * 2, none⟩) l1).trans fA
      have fBW := (hbW.frozen (p := ⟨w.heap.size + 1, k * 2 + 1, none⟩) l1).trans fB
      have hxW := hxw.byt (Byt.of_below hbW)
      have hyW := hyw.byt (Byt.of_below hbW)
      have hlW : w.heap.size + 1 < W.heap.size := by omega
      have hlW2 : wr.heap.size < W.heap.size := by omega
      have hneA : w.heap.size + 1 ≠ wr.heap.size := by omega
      have hneB : wr.heap.size ≠ w.heap.size + 1 := by omega
      clear cAx cBx cA' cB' fA fB r0 hxw hyw cA cB hx' hy' c0 c1 c2 c3
      go_region_held3 (fun w' => w'.cell? ⟨w.heap.size, 0, none⟩ = some (.pointer (some ⟨w.heap.size + 1, 0, none⟩)) ∧ w'.cell? ⟨wr.heap.size, 0, none⟩ = some (Value.slice b1 (S.sf k).length k1) ∧ w'.cell? ⟨wr.heap.size, 0 + 1, none⟩ = some (Value.slice b2 (S.lo k).length k2)) (go_keep)
        (first | (go_at_call_of 33 (Value.slice b1 (S.sf k).length k1); go_must (refine (clone_any hxW.drew (by omega)).mono ?_); go_must (rintro e w3 ⟨v3, rfl, hs3, hb3⟩); go_must (obtain ⟨d3, e3, rfl⟩ := hs3.shape); go_must (have hw3 : Below W.heap.size W w3 := below_of_drew hb3); go_must (have q0 := (hw3.cell (p := ⟨w.heap.size, 0, none⟩) (show w.heap.size < W.heap.size by omega)).trans r0W); go_must (have q1 := (hw3.cell (p := ⟨wr.heap.size, 0, none⟩) hlW2).trans m0); go_must (have q2 := (hw3.cell (p := ⟨wr.heap.size, 0 + 1, none⟩) hlW2).trans m1)) | (go_at_call_of 33 (Value.slice b2 (S.lo k).length k2); refine (clone_any (hyW.byt (Byt.of_below hw3)) (by omega)).mono ?_; rintro e w4 ⟨v4, rfl, hs4, hb4⟩; obtain ⟨d4, e4, rfl⟩ := hs4.shape; have hw4 := hw3.trans (hb4.mono hw3.size); have q0 := (hw4.cell (p := ⟨w.heap.size, 0, none⟩) (show w.heap.size < W.heap.size by omega)).trans r0W; have q1 := (hw4.cell (p := ⟨wr.heap.size, 0, none⟩) hlW2).trans m0; have q2 := (hw4.cell (p := ⟨wr.heap.size, 0 + 1, none⟩) hlW2).trans m1; have q3 := (hw4.cell (p := ⟨w.heap.size + 1, k * 2, none⟩) hlW).trans cAW; have q4 := (hw4.cell (p := ⟨w.heap.size + 1, k * 2 + 1, none⟩) hlW).trans cBW; have q5 := (hw4.frozen (p := ⟨w.heap.size + 1, k * 2, none⟩) hlW).trans fAW; have q6 := (hw4.frozen (p := ⟨w.heap.size + 1, k * 2 + 1, none⟩) hlW).trans fBW))
      have hb04 : Below wr.heap.size wr w4 := hbW.trans (hw4.mono (by omega))
      have hr4 := hr.below hb04
      obtain ⟨cs4, x1, x2, hD4, _, _, _, _, _⟩ := hr4.at hlt
      have hy4 := hs3.byt (Byt.of_below hb4)
      have t1 := two_sets (u := Value.slice d3 (S.sf k).length e3) (v := Value.slice d4 (S.lo k).length e4) (i := k * 2) (j := k * 2 + 1) (Fr.refl _ w4) hD4 hy4
      have t2 := two_sets (u := Value.slice d3 (S.sf k).length e3) (v := Value.slice d4 (S.lo k).length e4) (i := k * 2) (j := k * 2 + 1) (Fr.refl _ w4) hD4 hs4
      have hr5 := hr4.ofD t1.1 hlt hD4 t1.2.1 t1.2.2 t2.2.2 (by omega)
      have hb5 : Below w.heap.size w ((w4.setCell ⟨w.heap.size + 1, k * 2, none⟩ (Value.slice d3 (S.sf k).length e3)).setCell ⟨w.heap.size + 1, k * 2 + 1, none⟩ (Value.slice d4 (S.lo k).length e4)) :=
        ((hb.trans (hb04.mono hb.size)).setCell (p := ⟨w.heap.size + 1, k * 2, none⟩) (by show w.heap.size ≤ w.heap.size + 1; omega) _).setCell (p := ⟨w.heap.size + 1, k * 2 + 1, none⟩) (by show w.heap.size ≤ w.heap.size + 1; omega) _
      have hps := partS_succ S k
      have HP := Lib.hid hps
      clear q0 q1 q2 q3 q4 q5 q6 hps t1 t2 hs3 hs4 hy4 hxW hyW
      go_wp2
      go_roundw
      case rel => exact ⟨k + 1, by omega, by go_num, by rw [HP.out]; exact hr5, hb5⟩
      case measure => simp [intOf]; omega
    · obtain rfl : k = 3 := by omega
      go_wp2
      go_ret
      refine ⟨_, _, _, rfl, hr, ?_, rfl, rfl, Nat.le_refl _, by omega, hb⟩
      intro d hd
      simp [partS, hd]
end Go.Proofs.Ytlelbkljhbkjdaa
