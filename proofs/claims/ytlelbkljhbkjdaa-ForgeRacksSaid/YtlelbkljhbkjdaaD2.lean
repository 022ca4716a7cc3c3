import Derived.Test.YtlelbkljhbkjdaaB2
namespace Go.Proofs.Ytlelbkljhbkjdaa
open Go.RowKit Go.Kk

theorem Sb.some {w : World} {v : Value} {bs : List UInt8} (h : Sb w v bs) (hn : bs ≠ []) : ∃ g off cap, v = .slice (some ⟨g, off, none⟩) bs.length cap ∧ ∀ i (hi : i < bs.length), w.cell? ⟨g, off + i, none⟩ = some (.int .u8 bs[i].toNat) := by
  rcases h with ⟨rfl, rfl⟩ | ⟨g, off, cap, c, fr, rfl, hc, hg, hx⟩
  · exact absurd rfl hn
  · refine ⟨g, off, cap, rfl, fun i hi => cell_of_heap hg (hx i _ ?_)⟩
    simp [B8, List.getElem?_eq_getElem hi]

/-- the value behind j of the two lists, at place k -/
def tab (k j : Nat) : Int := if k = 0 then (if j = 0 then 0 else if j = 1 then 97 else 3) else (if j = 0 then 0 else 99)

set_option maxHeartbeats 1000000 in
theorem mixed_abc {w : World} {v1 v2 : Value} (h1 : Sb w v1 [97, 99]) (h2 : Sb w v2 [98]) :
    Calls Try.prog 38 #[v1, v2, .int .i64 2] w fun e w' => ∃ v, e = .returned v ∧ Sb w' v [3, 99] ∧ Below w.heap.size w w' := by
  obtain ⟨g1, o1, k1, rfl, c1⟩ := h1.some (by simp)
  obtain ⟨g2, o2, k2, rfl, c2⟩ := h2.some (by simp)
  have a0 := c1 0 (by simp)
  have a1 := c1 1 (by simp)
  have b0 := c2 0 (by simp)
  simp at a0 a1 b0
  clear c1 c2 h1 h2
  go_enter Try.func38, Try.ntmps38
  go_wp2
  go_loopw [7, 13] (fun v i wr => ∃ k : Nat, k ≤ 2 ∧ i = .int .i64 k ∧ wr.ownsRow w.heap.size 5 1 v k (B8 (([3, 99] : List UInt8).take k)) ∧ Below w.heap.size w wr) (fun _ i _ => 2 - (intOf i).toNat)
  case atStart => exact ⟨0, by omega, rfl, World.ownsRow_nil _ _ _ _, Below.refl _ _⟩
  case round =>
    obtain ⟨k, hk, rfl, hown, hb⟩ := hrel
    have a0 := Keeps.of_below hb _ _ a0
    have a1 := Keeps.of_below hb _ _ a1
    have b0 := Keeps.of_below hb _ _ b0
    rcases (by omega : k = 0 ∨ k = 1 ∨ k = 2) with rfl | rfl | rfl
    · rw [show ((0 : Nat) : Int) = 0 from rfl]
      go_wp2
      have m0 := newA wr wr.heap.size #[Value.slice (some ⟨g1, o1, none⟩) 2 k1, Value.slice (some ⟨g2, o2, none⟩) 1 k2] 27 0 _ rfl rfl
      have m1 := newA wr wr.heap.size #[Value.slice (some ⟨g1, o1, none⟩) 2 k1, Value.slice (some ⟨g2, o2, none⟩) 1 k2] 27 1 _ rfl rfl
      have hkp := Keeps.of_below (below_alloc wr (.cells #[Value.slice (some ⟨g1, o1, none⟩) 2 k1, Value.slice (some ⟨g2, o2, none⟩) 1 k2] 27))
      have a0 := hkp _ _ a0
      have a1 := hkp _ _ a1
      have b0 := hkp _ _ b0
      have hbW := hb.alloc hb.size (.cells #[Value.slice (some ⟨g1, o1, none⟩) 2 k1, Value.slice (some ⟨g2, o2, none⟩) 1 k2] 27)
      have hownW := hown.alloc (.cells #[Value.slice (some ⟨g1, o1, none⟩) 2 k1, Value.slice (some ⟨g2, o2, none⟩) 1 k2] 27)
      generalize wr.alloc (.cells #[Value.slice (some ⟨g1, o1, none⟩) 2 k1, Value.slice (some ⟨g2, o2, none⟩) 1 k2] 27) = W at *
      go_loop [9, 20] (fun x i => ∃ j : Nat, j ≤ 2 ∧ i = .int .i64 j ∧ x = .int .u8 (tab 0 j)) (fun _ i => 2 - (intOf i).toNat)
      case atStart => exact ⟨0, by omega, rfl, rfl⟩
      case round =>
        obtain ⟨j, hj, rfl, rfl⟩ := hrel
        rcases (by omega : j = 0 ∨ j = 1 ∨ j = 2) with rfl | rfl | rfl
        · rw [show ((0 : Nat) : Int) = 0 from rfl, show tab 0 0 = 0 from rfl]
          go_wp2
          go_round
          case rel => exact ⟨1, by omega, rfl, rfl⟩
          case measure => simp [intOf]
        · rw [show ((1 : Nat) : Int) = 1 from rfl, show tab 0 1 = 97 from rfl]
          go_wp2
          go_round
          case rel => exact ⟨2, by omega, rfl, by first | rfl | exact congrArg (Value.int IntKind.u8) (by decide)⟩
          case measure => simp [intOf]
        · rw [show ((2 : Nat) : Int) = 2 from rfl, show tab 0 2 = 3 from rfl]
          have hsl : Sl (W.alloc (.cells #[.int .u8 3] 5)) 1 (.slice (some ⟨W.heap.size, 0, none⟩) 1 1) 1 [.int .u8 3] := ⟨rfl, .inr (.inl ⟨_, _, _, rfl, by omega, fun j u hu => by
            rcases j with _ | j
            · simp at hu; subst hu; exact newA _ _ _ _ _ _ rfl rfl
            · simp at hu⟩)⟩
          go_wp2_with (at_builtin; refine wpList_append rfl _ _ _ rfl T27 rfl (hownW.alloc _) rfl hsl (by simp [Value.oneCell']) (by decide) (by decide) (by have := hbW.size; simp; omega) ?_; intro v' w' hown' hg)
          have hb' := (hbW.alloc hbW.size _).grown hg (by have := hbW.size; simp; omega) (fun k hk => (hownW.lt k hk).1)
          go_wp2
          go_roundw
          case rel => exact ⟨1, by omega, rfl, hown', hb'⟩
          case measure => simp [intOf]
    · rw [show ((1 : Nat) : Int) = 1 from rfl]
      go_wp2
      have m0 := newA wr wr.heap.size #[Value.slice (some ⟨g1, o1, none⟩) 2 k1, Value.slice (some ⟨g2, o2, none⟩) 1 k2] 27 0 _ rfl rfl
      have m1 := newA wr wr.heap.size #[Value.slice (some ⟨g1, o1, none⟩) 2 k1, Value.slice (some ⟨g2, o2, none⟩) 1 k2] 27 1 _ rfl rfl
      have hkp := Keeps.of_below (below_alloc wr (.cells #[Value.slice (some ⟨g1, o1, none⟩) 2 k1, Value.slice (some ⟨g2, o2, none⟩) 1 k2] 27))
      have a0 := hkp _ _ a0
      have a1 := hkp _ _ a1
      have b0 := hkp _ _ b0
      have hbW := hb.alloc hb.size (.cells #[Value.slice (some ⟨g1, o1, none⟩) 2 k1, Value.slice (some ⟨g2, o2, none⟩) 1 k2] 27)
      have hownW := hown.alloc (.cells #[Value.slice (some ⟨g1, o1, none⟩) 2 k1, Value.slice (some ⟨g2, o2, none⟩) 1 k2] 27)
      generalize wr.alloc (.cells #[Value.slice (some ⟨g1, o1, none⟩) 2 k1, Value.slice (some ⟨g2, o2, none⟩) 1 k2] 27) = W at *
      go_loop [9, 20] (fun x i => ∃ j : Nat, j ≤ 2 ∧ i = .int .i64 j ∧ x = .int .u8 (tab 1 j)) (fun _ i => 2 - (intOf i).toNat)
      case atStart => exact ⟨0, by omega, rfl, rfl⟩
      case round =>
        obtain ⟨j, hj, rfl, rfl⟩ := hrel
        rcases (by omega : j = 0 ∨ j = 1 ∨ j = 2) with rfl | rfl | rfl
        · rw [show ((0 : Nat) : Int) = 0 from rfl, show tab 1 0 = 0 from rfl]
          go_wp2
          go_round
          case rel => exact ⟨1, by omega, rfl, rfl⟩
          case measure => simp [intOf]
        · rw [show ((1 : Nat) : Int) = 1 from rfl, show tab 1 1 = 99 from rfl]
          go_wp2
          go_round
          case rel => exact ⟨2, by omega, rfl, by first | rfl | exact congrArg (Value.int IntKind.u8) (by decide)⟩
          case measure => simp [intOf]
        · rw [show ((2 : Nat) : Int) = 2 from rfl, show tab 1 2 = 99 from rfl]
          have hsl : Sl (W.alloc (.cells #[.int .u8 99] 5)) 1 (.slice (some ⟨W.heap.size, 0, none⟩) 1 1) 1 [.int .u8 99] := ⟨rfl, .inr (.inl ⟨_, _, _, rfl, by omega, fun j u hu => by
            rcases j with _ | j
            · simp at hu; subst hu; exact newA _ _ _ _ _ _ rfl rfl
            · simp at hu⟩)⟩
          go_wp2_with (at_builtin; refine wpList_append rfl _ _ _ rfl T27 rfl (hownW.alloc _) rfl hsl (by simp [Value.oneCell']) (by decide) (by decide) (by have := hbW.size; simp; omega) ?_; intro v' w' hown' hg)
          have hb' := (hbW.alloc hbW.size _).grown hg (by have := hbW.size; simp; omega) (fun k hk => (hownW.lt k hk).1)
          go_wp2
          go_roundw
          case rel => exact ⟨2, by omega, rfl, hown', hb'⟩
          case measure => simp [intOf]
    · rw [show ((2 : Nat) : Int) = 2 from rfl]
      go_wp2
      go_ret
      exact ⟨_, rfl, Sb.of_own hown, hb⟩
end Go.Proofs.Ytlelbkljhbkjdaa
