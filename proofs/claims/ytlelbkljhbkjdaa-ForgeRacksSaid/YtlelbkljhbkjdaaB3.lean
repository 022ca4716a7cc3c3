import Derived.Test.YtlelbkljhbkjdaaB2
namespace Go.Proofs.Ytlelbkljhbkjdaa
open Go.RowKit Go.Kk

theorem Byt.set {w : World} {b i e : Nat} {cs : Array Value} {f : Nat × Nat} (h : w.heap[b]? = some (.cells cs e f)) (he : e ≠ 5) (v : Value) : Byt w (w.setCell ⟨b, i, none⟩ v) := fun g c fr hg => by
  rw [Below.heap_setCell _ _ _ _ (by rintro rfl; rw [h] at hg; simp at hg; exact he hg.2.1)]
  exact hg

/-- two stores in one block -/
theorem two_sets {w w1 : World} {D i j : Nat} {cs : Array Value} {u v x : Value} {bs : List UInt8} (hf : Fr (· = D) w w1) (hD : w1.heap[D]? = some (.cells cs 48 (0, 0))) (hx : Sb w1 x bs) :
    Fr (· = D) w ((w1.setCell ⟨D, i, none⟩ u).setCell ⟨D, j, none⟩ v) ∧ ((w1.setCell ⟨D, i, none⟩ u).setCell ⟨D, j, none⟩ v).heap[D]? = some (.cells ((cs.setIfInBounds i u).setIfInBounds j v) 48 (0, 0)) ∧
      Sb ((w1.setCell ⟨D, i, none⟩ u).setCell ⟨D, j, none⟩ v) x bs :=
  ⟨(hf.setCell (S := (· = D)) (a := ⟨D, i, none⟩) rfl _).setCell (S := (· = D)) (a := ⟨D, j, none⟩) rfl _, hset_same _ (hset_same _ hD),
    (hx.byt (Byt.set hD (by decide) u)).byt (Byt.set (hset_same _ hD) (by decide) v)⟩

set_option maxHeartbeats 400000 in
theorem sync1 (D o : Nat) (w : World) (cs : Array Value) (v1 v2 : Value) (xs ys : List UInt8) (hD : w.heap[D]? = some (.cells cs 48 (0, 0))) (hv1 : cs[o]? = some v1) (hv2 : cs[o + 1]? = some v2)
    (hxs : Sb w v1 xs) (hys : Sb w v2 ys) (hn : xs.length + ys.length ≤ 1000000) :
    Calls Try.prog 29 #[.pointer (some ⟨D, o, none⟩)] w fun e w' => e = .returned (.tuple #[]) ∧
      ∃ v, Fr (· = D) w w' ∧ w'.heap[D]? = some (.cells ((cs.setIfInBounds o v).setIfInBounds (o + 1) (.slice none 0 0)) 48 (0, 0)) ∧ Sb w' v (xs ++ ys) := by
  have c1 := cell_of_heap (i := o) hD hv1
  have c2 := cell_of_heap (i := o + 1) hD hv2
  have hDs := heap_lt hD
  go_enter Try.func29, Try.ntmps29
  go_wp2_with (go_at_call 30; refine (all_any hxs hys hn).mono ?_; rintro e w1 ⟨v, rfl, hown, hbel⟩; obtain ⟨b3, c3, rfl⟩ := (Sl.of_own hown).shape; have k1 := (hbel.cell (p := ⟨D, o, none⟩) hDs).trans c1; have k2 := (hbel.cell (p := ⟨D, o + 1, none⟩) hDs).trans c2; have k3 := (hbel.frozen (p := ⟨D, o, none⟩) hDs).trans (frozen_of_heap hD); have k4 := (hbel.frozen (p := ⟨D, o + 1, none⟩) hDs).trans (frozen_of_heap hD))
  go_end0
  exact ⟨rfl, _, two_sets (Fr.of_below hbel) ((hbel.block D hDs).trans hD) (Sb.of_own hown)⟩

set_option maxHeartbeats 400000 in
theorem trim1 (D o a b n : Nat) (w : World) (cs : Array Value) (v1 v2 v : Value) (xs : List UInt8) (hD : w.heap[D]? = some (.cells cs 48 (0, 0))) (hv1 : cs[o]? = some v1) (hv2 : cs[o + 1]? = some v2)
    (ha : w.cell? ⟨a, 0, none⟩ = some v) (hb : w.cell? ⟨b, 0, none⟩ = some (.int .i64 n)) (hxs : Sb w v xs) (hn : n ≤ xs.length) (hn64 : xs.length ≤ 1000000) :
    Calls Try.prog 31 #[.pointer (some ⟨D, o, none⟩), .pointer (some ⟨a, 0, none⟩), .pointer (some ⟨b, 0, none⟩)] w fun e w' => e = .returned (.tuple #[]) ∧
      ∃ v', Fr (· = D) w w' ∧ w'.heap[D]? = some (.cells ((cs.setIfInBounds o v').setIfInBounds (o + 1) (.slice none 0 0)) 48 (0, 0)) ∧ Sb w' v' (xs.take n) := by
  have c1 := cell_of_heap (i := o) hD hv1
  have c2 := cell_of_heap (i := o + 1) hD hv2
  have k3 := frozen_of_heap (i := o) hD
  have k4 := frozen_of_heap (i := o + 1) hD
  have hDs := heap_lt hD
  have hx := hxs
  rcases hxs with ⟨rfl, rfl⟩ | ⟨g, off, cap, c, fr, rfl, hc, hg, hx1⟩
  · obtain rfl : n = 0 := by simpa using hn
    go_enter Try.func31, Try.ntmps31
    go_wp2
    go_end0
    exact ⟨rfl, _, two_sets (Fr.refl _ _) hD (Sb.nil _)⟩
  · go_enter Try.func31, Try.ntmps31
    go_wp2
    go_end0
    refine ⟨rfl, _, two_sets (Fr.refl _ _) hD (.inr ⟨g, off, cap, c, fr, ?_, ?_, hg, ?_⟩)⟩
    · rw [List.length_take, Nat.min_eq_left hn]
    · rw [List.length_take]; omega
    · intro j u hu
      rw [B8_take, List.getElem?_take] at hu
      split at hu
      · exact hx1 j u hu
      · cases hu
end Go.Proofs.Ytlelbkljhbkjdaa
