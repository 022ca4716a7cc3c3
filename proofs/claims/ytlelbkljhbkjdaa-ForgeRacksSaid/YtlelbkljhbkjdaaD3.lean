import Derived.Test.YtlelbkljhbkjdaaD2
import Derived.Test.YtlelbkljhbkjdaaK3
import Derived.Test.YtlelbkljhbkjdaaB3
namespace Go.Proofs.Ytlelbkljhbkjdaa
open Go.RowKit Go.Kk

def p0 (k : Nat) : List UInt8 := if k = 0 then [] else if k = 3 then [97, 99] else [97]
def p1 (k : Nat) : List UInt8 := if k ≤ 1 then [] else [98]

theorem dis_swap {a b : Option Nat} (h : a = none ∨ a ≠ b) : b = none ∨ b ≠ a := by
  cases b with
  | none => exact .inl rfl
  | some y => rcases h with rfl | h
              · exact .inr (by simp)
              · exact .inr fun e => h e.symm
theorem dis_step {a b b' : Option Nat} {H : Nat} (hd : a = none ∨ a ≠ b) (hat : b' = b ∨ b' = some H) (hlt : ∀ k, a = some k → k < H) : a = none ∨ a ≠ b' := by
  rcases hat with rfl | rfl
  · exact hd
  · cases a with
    | none => exact .inl rfl
    | some x => exact .inr fun e => by have := hlt x rfl; injection e with e; omega

set_option maxHeartbeats 1000000 in
theorem parts_abc {w : World} {v : Value} (h : Sb w v [97, 98, 99]) :
    Calls Try.prog 36 #[v] w fun e w' => ∃ v0 v1 v2, e = .returned (.agg #[v0, v1, v2]) ∧ Sb w' v0 [97, 99] ∧ Sb w' v1 [98] ∧ Sb w' v2 [3, 99] ∧ Below w.heap.size w w' := by
  obtain ⟨g, o, kc, rfl, c⟩ := h.some (by simp)
  have a0 := c 0 (by simp)
  have a1 := c 1 (by simp)
  have a2 := c 2 (by simp)
  simp at a0 a1 a2
  clear c h
  go_enter Try.func36, Try.ntmps36
  go_wp2
  go_loopw [8] (fun i wr => ∃ (k : Nat) (v0 v1 : Value), k ≤ 3 ∧ i = .int .i64 k ∧ wr.heap[w.heap.size + 1]? = some (.cells #[v0, v1, .slice none 0 0] 28 (0, 0)) ∧ wr.ownsRow (w.heap.size + 2) 5 1 v0 (p0 k).length (B8 (p0 k)) ∧ wr.ownsRow (w.heap.size + 2) 5 1 v1 (p1 k).length (B8 (p1 k)) ∧
    (v0.ownBlock = none ∨ v0.ownBlock ≠ v1.ownBlock) ∧ (∃ c0, wr.heap[w.heap.size]? = some (.cells c0 28 (0, 0)) ∧ c0 = #[.slice none 0 0, .slice none 0 0, .slice none 0 0]) ∧ Below w.heap.size w wr) (fun i _ => 3 - (intOf i).toNat)
  case atStart =>
    refine ⟨0, _, _, by omega, rfl, ?_, World.ownsRow_nil _ _ _ _, World.ownsRow_nil _ _ _ _, .inl rfl, ⟨_, ?_, rfl⟩, below_alloc2 _ _ _⟩
    · have := heap_alloc_new (w.alloc (Obj.cells #[Value.slice none 0 0, Value.slice none 0 0, Value.slice none 0 0] 28)) (Obj.cells #[Value.slice none 0 0, Value.slice none 0 0, Value.slice none 0 0] 28)
      simpa using this
    · rw [Below.heap_alloc _ _ _ (by simp)]
      exact heap_alloc_new _ _
  case round =>
    obtain ⟨k, v0, v1, hk, rfl, hO, hown0, hown1, hdis, hres, hb⟩ := hrel
    have a0 := Keeps.of_below hb _ _ a0
    have a1 := Keeps.of_below hb _ _ a1
    have a2 := Keeps.of_below hb _ _ a2
    have cO0 := cell_of_heap (i := 0) hO rfl
    have cO1 := cell_of_heap (i := 1) hO rfl
    have fO0 := frozen_of_heap (i := 0) hO
    have fO1 := frozen_of_heap (i := 1) hO
    have hOs := heap_lt hO
    rcases (by omega : k = 0 ∨ k = 1 ∨ k = 2 ∨ k = 3) with rfl | rfl | rfl | rfl
    · rw [show ((0 : Nat) : Int) = 0 from rfl]
      have hsl := Sl.new wr [.int .u8 97] 5 1 1 rfl
      have hB : w.heap.size + 2 ≤ (wr.alloc (.cells #[.int .u8 97] 5)).heap.size := by simp; omega
      have hbA := hb.alloc hb.size (.cells #[.int .u8 97] 5)
      have hOA := (Below.heap_alloc wr (.cells #[.int .u8 97] 5) _ hOs).trans hO
      have hownjA := hown0.alloc (.cells #[.int .u8 97] 5)
      have hownoA := hown1.alloc (.cells #[.int .u8 97] 5)
      have cOA := cell_of_heap (i := 0) hOA rfl
      have HO := Lib.hid hO
      have HOA := Lib.hid hOA
      have HD := Lib.hid hdis
      obtain ⟨bj, kj, hvj⟩ := (Sl.of_own hown0).shape
      subst hvj
      clear hO hOA hdis
      go_wp2_with (at_builtin; go_must (refine wpList_append_at rfl _ _ _ rfl T27 (Value.slice bj (p0 0).length kj) rfl hownjA rfl hsl (by simp [Value.oneCell']) (by decide) (by decide) hB (p0 1).length (B8 (p0 1)) (by decide) rfl ?_); go_must (intro v' w' hown' hg hat); go_must (obtain ⟨bj', kj', rfl⟩ := (Sl.of_own hown').shape); go_must (have hlt : w.heap.size + 1 < (wr.alloc (.cells #[.int .u8 97] 5)).heap.size := by omega); go_must (have hnO : some (w.heap.size + 1) ≠ (Value.slice bj (p0 0).length kj).ownBlock := by (intro e); go_must (have := (hownjA.lt _ e.symm).1; omega)); go_must (have hO' := (hg.block _ hlt hnO).trans HOA.out); go_must (have cO' := cell_of_heap (i := 0) hO' rfl); go_must (have fO' := frozen_of_heap (i := 0) hO'))
      have hdo := dis_swap HD.out
      obtain ⟨c0, hc0, rfl⟩ := hres
      have hcA := (Below.heap_alloc wr (.cells #[.int .u8 97] 5) _ (heap_lt hc0)).trans hc0
      have hnR : some w.heap.size ≠ (Value.slice bj (p0 0).length kj).ownBlock := by
        intro e
        have := (hownjA.lt _ e.symm).1
        omega
      have hcR := (hg.block _ (heap_lt hcA) hnR).trans hcA
      have hb' := (hbA.grown hg hbA.size (fun k hk => by have := (hownjA.lt k hk).1; omega)).setCell (p := ⟨w.heap.size + 1, 0, none⟩) (by show w.heap.size ≤ w.heap.size + 1; omega) (Value.slice bj' (p0 1).length kj')
      go_roundw
      case rel => exact ⟨1, _, _, by omega, rfl, hset_same _ hO', ownsRow_setCell_below hown' (by show w.heap.size + 1 < w.heap.size + 2; omega) _, ownsRow_setCell_below (hownoA.kept hg hdo) (by show w.heap.size + 1 < w.heap.size + 2; omega) _, dis_swap (dis_step hdo hat fun k hk => (hownoA.lt k hk).2), ⟨_, (Below.heap_setCell _ _ _ _ (by show w.heap.size ≠ w.heap.size + 1; omega)).trans hcR, rfl⟩, hb'⟩
      case measure => simp [intOf]
    · rw [show ((1 : Nat) : Int) = 1 from rfl]
      have hsl := Sl.new wr [.int .u8 98] 5 1 1 rfl
      have hB : w.heap.size + 2 ≤ (wr.alloc (.cells #[.int .u8 98] 5)).heap.size := by simp; omega
      have hbA := hb.alloc hb.size (.cells #[.int .u8 98] 5)
      have hOA := (Below.heap_alloc wr (.cells #[.int .u8 98] 5) _ hOs).trans hO
      have hownjA := hown1.alloc (.cells #[.int .u8 98] 5)
      have hownoA := hown0.alloc (.cells #[.int .u8 98] 5)
      have cOA := cell_of_heap (i := 1) hOA rfl
      have HO := Lib.hid hO
      have HOA := Lib.hid hOA
      have HD := Lib.hid hdis
      obtain ⟨bj, kj, hvj⟩ := (Sl.of_own hown1).shape
      subst hvj
      clear hO hOA hdis
      go_wp2_with (at_builtin; go_must (refine wpList_append_at rfl _ _ _ rfl T27 (Value.slice bj (p1 1).length kj) rfl hownjA rfl hsl (by simp [Value.oneCell']) (by decide) (by decide) hB (p1 2).length (B8 (p1 2)) (by decide) rfl ?_); go_must (intro v' w' hown' hg hat); go_must (obtain ⟨bj', kj', rfl⟩ := (Sl.of_own hown').shape); go_must (have hlt : w.heap.size + 1 < (wr.alloc (.cells #[.int .u8 98] 5)).heap.size := by omega); go_must (have hnO : some (w.heap.size + 1) ≠ (Value.slice bj (p1 1).length kj).ownBlock := by (intro e); go_must (have := (hownjA.lt _ e.symm).1; omega)); go_must (have hO' := (hg.block _ hlt hnO).trans HOA.out); go_must (have cO' := cell_of_heap (i := 1) hO' rfl); go_must (have fO' := frozen_of_heap (i := 1) hO'))
      have hdo := HD.out
      obtain ⟨c0, hc0, rfl⟩ := hres
      have hcA := (Below.heap_alloc wr (.cells #[.int .u8 98] 5) _ (heap_lt hc0)).trans hc0
      have hnR : some w.heap.size ≠ (Value.slice bj (p1 1).length kj).ownBlock := by
        intro e
        have := (hownjA.lt _ e.symm).1
        omega
      have hcR := (hg.block _ (heap_lt hcA) hnR).trans hcA
      have hb' := (hbA.grown hg hbA.size (fun k hk => by have := (hownjA.lt k hk).1; omega)).setCell (p := ⟨w.heap.size + 1, 1, none⟩) (by show w.heap.size ≤ w.heap.size + 1; omega) (Value.slice bj' (p1 2).length kj')
      go_roundw
      case rel => exact ⟨2, _, _, by omega, rfl, hset_same _ hO', ownsRow_setCell_below (hownoA.kept hg hdo) (by show w.heap.size + 1 < w.heap.size + 2; omega) _, ownsRow_setCell_below hown' (by show w.heap.size + 1 < w.heap.size + 2; omega) _, dis_step hdo hat fun k hk => (hownoA.lt k hk).2, ⟨_, (Below.heap_setCell _ _ _ _ (by show w.heap.size ≠ w.heap.size + 1; omega)).trans hcR, rfl⟩, hb'⟩
      case measure => simp [intOf]
    · rw [show ((2 : Nat) : Int) = 2 from rfl]
      have hsl := Sl.new wr [.int .u8 99] 5 1 1 rfl
      have hB : w.heap.size + 2 ≤ (wr.alloc (.cells #[.int .u8 99] 5)).heap.size := by simp; omega
      have hbA := hb.alloc hb.size (.cells #[.int .u8 99] 5)
      have hOA := (Below.heap_alloc wr (.cells #[.int .u8 99] 5) _ hOs).trans hO
      have hownjA := hown0.alloc (.cells #[.int .u8 99] 5)
      have hownoA := hown1.alloc (.cells #[.int .u8 99] 5)
      have cOA := cell_of_heap (i := 0) hOA rfl
      have HO := Lib.hid hO
      have HOA := Lib.hid hOA
      have HD := Lib.hid hdis
      obtain ⟨bj, kj, hvj⟩ := (Sl.of_own hown0).shape
      subst hvj
      clear hO hOA hdis
      go_wp2_with (at_builtin; go_must (refine wpList_append_at rfl _ _ _ rfl T27 (Value.slice bj (p0 2).length kj) rfl hownjA rfl hsl (by simp [Value.oneCell']) (by decide) (by decide) hB (p0 3).length (B8 (p0 3)) (by decide) rfl ?_); go_must (intro v' w' hown' hg hat); go_must (obtain ⟨bj', kj', rfl⟩ := (Sl.of_own hown').shape); go_must (have hlt : w.heap.size + 1 < (wr.alloc (.cells #[.int .u8 99] 5)).heap.size := by omega); go_must (have hnO : some (w.heap.size + 1) ≠ (Value.slice bj (p0 2).length kj).ownBlock := by (intro e); go_must (have := (hownjA.lt _ e.symm).1; omega)); go_must (have hO' := (hg.block _ hlt hnO).trans HOA.out); go_must (have cO' := cell_of_heap (i := 0) hO' rfl); go_must (have fO' := frozen_of_heap (i := 0) hO'))
      have hdo := dis_swap HD.out
      obtain ⟨c0, hc0, rfl⟩ := hres
      have hcA := (Below.heap_alloc wr (.cells #[.int .u8 99] 5) _ (heap_lt hc0)).trans hc0
      have hnR : some w.heap.size ≠ (Value.slice bj (p0 2).length kj).ownBlock := by
        intro e
        have := (hownjA.lt _ e.symm).1
        omega
      have hcR := (hg.block _ (heap_lt hcA) hnR).trans hcA
      have hb' := (hbA.grown hg hbA.size (fun k hk => by have := (hownjA.lt k hk).1; omega)).setCell (p := ⟨w.heap.size + 1, 0, none⟩) (by show w.heap.size ≤ w.heap.size + 1; omega) (Value.slice bj' (p0 3).length kj')
      go_roundw
      case rel => exact ⟨3, _, _, by omega, rfl, hset_same _ hO', ownsRow_setCell_below hown' (by show w.heap.size + 1 < w.heap.size + 2; omega) _, ownsRow_setCell_below (hownoA.kept hg hdo) (by show w.heap.size + 1 < w.heap.size + 2; omega) _, dis_swap (dis_step hdo hat fun k hk => (hownoA.lt k hk).2), ⟨_, (Below.heap_setCell _ _ _ _ (by show w.heap.size ≠ w.heap.size + 1; omega)).trans hcR, rfl⟩, hb'⟩
      case measure => simp [intOf]
    · rw [show ((3 : Nat) : Int) = 3 from rfl]
      have hs0 : Sb wr v0 [97, 99] := Sb.of_own hown0
      have hs1 : Sb wr v1 [98] := Sb.of_own hown1
      obtain ⟨b0, k0, rfl⟩ := hs0.shape
      obtain ⟨b1, k1, rfl⟩ := hs1.shape
      obtain ⟨c0, hc0, rfl⟩ := hres
      have HO := Lib.hid hO
      have HR := Lib.hid hc0
      have hRs := heap_lt hc0
      clear hO hc0 hdis hown0 hown1
      go_wp2_with (go_at_call 38; refine (mixed_abc hs0 hs1).mono ?_; rintro e w1 ⟨v2, rfl, hs2, hb1⟩; obtain ⟨b2, k2, rfl⟩ := hs2.shape; have hO1 := (hb1.block _ hOs).trans HO.out; have hR1 := (hb1.block _ hRs).trans HR.out; have q0 := cell_of_heap (i := 0) hO1 rfl; have q1 := cell_of_heap (i := 1) hO1 rfl; have q2 := cell_of_heap (i := 2) hO1 rfl; have q3 := frozen_of_heap (i := 2) hO1; have r0 := cell_of_heap (i := 0) hR1 rfl; have r1 := cell_of_heap (i := 1) hR1 rfl; have r2 := cell_of_heap (i := 2) hR1 rfl; have r3 := frozen_of_heap (i := 0) hR1; have r4 := frozen_of_heap (i := 1) hR1; have r5 := frozen_of_heap (i := 2) hR1; have HO1 := Lib.hid hO1; have HR1 := Lib.hid hR1; clear hO1 hR1)
      have hA := Byt.set (i := 2) HO1.out (by decide) (Value.slice b2 ([3, 99] : List UInt8).length k2)
      have hR2 : (w1.setCell ⟨w.heap.size + 1, 2, none⟩ (Value.slice b2 ([3, 99] : List UInt8).length k2)).heap[w.heap.size]? = some (.cells #[.slice none 0 0, .slice none 0 0, .slice none 0 0] 28 (0, 0)) :=
        (Below.heap_setCell _ _ _ _ (by show w.heap.size ≠ w.heap.size + 1; omega)).trans HR1.out
      have hB1 := Byt.set (i := 0) hR2 (by decide) (Value.slice b0 ([97, 99] : List UInt8).length k0)
      have hR3 := hset_same (i := 0) (Value.slice b0 ([97, 99] : List UInt8).length k0) hR2
      have hB2 := Byt.set (i := 1) hR3 (by decide) (Value.slice b1 ([98] : List UInt8).length k1)
      have hR4 := hset_same (i := 1) (Value.slice b1 ([98] : List UInt8).length k1) hR3
      have hB3 := Byt.set (i := 2) hR4 (by decide) (Value.slice b2 ([3, 99] : List UInt8).length k2)
      have hBy := ((hA.trans hB1).trans hB2).trans hB3
      have hb2 := ((((hb.trans (hb1.mono hb.size)).setCell (p := ⟨w.heap.size + 1, 2, none⟩) (by show w.heap.size ≤ w.heap.size + 1; omega) (Value.slice b2 ([3, 99] : List UInt8).length k2)).setCell (p := ⟨w.heap.size, 0, none⟩) (Nat.le_refl _) (Value.slice b0 ([97, 99] : List UInt8).length k0)).setCell (p := ⟨w.heap.size, 1, none⟩) (Nat.le_refl _) (Value.slice b1 ([98] : List UInt8).length k1)).setCell (p := ⟨w.heap.size, 2, none⟩) (Nat.le_refl _) (Value.slice b2 ([3, 99] : List UInt8).length k2)
      exact bodyPost_ret (v := .agg #[_, _, _]) (by simp [results, Try.results36, go_sem, r0, r1, r2]) rfl ⟨_, _, _, rfl, (hs0.byt (Byt.of_below hb1)).byt hBy, (hs1.byt (Byt.of_below hb1)).byt hBy, hs2.byt hBy, hb2⟩
end Go.Proofs.Ytlelbkljhbkjdaa
