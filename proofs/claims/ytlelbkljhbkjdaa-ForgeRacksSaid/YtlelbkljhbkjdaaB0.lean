import Derived.Test.YtlelbkljhbkjdaaA
import Derived.Deep.RegionHeld3
import Derived.Deep.RegionWith
namespace Go.Proofs.Ytlelbkljhbkjdaa
open Go.RowKit Go.Kk

set_option maxHeartbeats 1000000 in
theorem append1 (D o c n m : Nat) (w : World) (cs : Array Value) (lv bv : Value) (xs ys : List Value) (hD : w.heap[D]? = some (.cells cs 48 (0, 0))) (hl : cs[o + 1]? = some lv)
    (hb : w.cell? ⟨c, 0, none⟩ = some bv) (hxs : Sl w 1 lv n xs) (hys : Sl w 1 bv m ys) (h1 : ∀ u ∈ xs, u.oneCell' = true) (h2 : ∀ u ∈ ys, u.oneCell' = true) (hn : n + m ≤ 1000000) :
    Calls Try.prog 26 #[.pointer (some ⟨D, o, none⟩), .pointer (some ⟨c, 0, none⟩)] w fun e w' => e = .returned (.tuple #[]) ∧
      ∃ v, Fr (· = D) w w' ∧ w'.heap[D]? = some (.cells (cs.setIfInBounds (o + 1) v) 48 (0, 0)) ∧ w'.ownsRow w.heap.size 5 1 v (n + m) (xs ++ ys) := by
  have hc1 : w.cell? ⟨D, o + 1, none⟩ = some lv := by simp [World.cell?, hD, hl]
  have hf1 : w.frozen? ⟨D, o + 1, none⟩ = false := by simp [World.frozen?, hD]
  obtain ⟨b1, c1, rfl⟩ := hxs.shape
  obtain ⟨b2, c2, rfl⟩ := hys.shape
  go_enter Try.func26, Try.ntmps26
  go_wp2
  have hDs : D < w.heap.size := (Array.getElem?_eq_some_iff.1 hD).1
  have hcs : c < w.heap.size := World.block_lt_of_cell? w _ hb
  go_region_with ((go_at_call 27; refine (concat2 _ _ _ _ _ _ _ _ _ _ (new0 _ _ _ _) (new1 _ _ _ _) (hxs.keeps (keeps_new _ _)) (hys.keeps (keeps_new _ _)) h1 h2 hn).mono ?_; rintro e w1 ⟨v, rfl, hown, hbel⟩; obtain ⟨b3, c3, rfl⟩ := (Sl.of_own hown).shape; have hb1 := below_of_new hbel; have k1 := (hb1.cell (p := ⟨D, o + 1, none⟩) hDs).trans hc1; have k2 := (hb1.cell (p := ⟨c, 0, none⟩) hcs).trans hb; have k3 := (hb1.frozen (p := ⟨D, o + 1, none⟩) hDs).trans hf1))
  all_goals
    go_end0
    refine ⟨rfl, _, (Fr.of_below hb1).setCell (S := (· = D)) (a := ⟨D, o + 1, none⟩) rfl _, hset_same _ ((hb1.block D hDs).trans hD), ?_⟩
    exact ownsRow_setCell_below (own_mono hown (by rw [size_new]; omega)) hDs _
end Go.Proofs.Ytlelbkljhbkjdaa
