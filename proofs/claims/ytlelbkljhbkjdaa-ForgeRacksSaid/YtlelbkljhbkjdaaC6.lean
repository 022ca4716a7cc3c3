import Derived.Test.YtlelbkljhbkjdaaC4
import Derived.Test.YtlelbkljhbkjdaaBC
namespace Go.Proofs.Ytlelbkljhbkjdaa
open Go.RowKit Go.Kk

set_option maxHeartbeats 400000 in
theorem rarm_any {w : World} {M : Nat} {S : St} (h : RefIs w M S) (n : Int) (hn : n ≤ 9223372036854775807) :
    Calls Try.prog 13 #[.pointer (some ⟨M, 0, none⟩), .int .i64 n] w fun e w' => e = .returned (.tuple #[]) ∧ RefIs w' M (armS S n) ∧ Fr (· = M) w w' := by
  obtain ⟨cs, v, hM, _, _, g6, g7, hsz, _⟩ := h.at (d := 0) (by omega)
  have c7 := cell_of_heap hM g7
  have f7 := frozen_of_heap (i := 7) hM
  have fin : ∀ x, max n 0 = x → RefIs (w.setCell ⟨M, 7, none⟩ (.int .i64 x)) M (armS S n) ∧ Fr (· = M) w (w.setCell ⟨M, 7, none⟩ (.int .i64 x)) := fun x hx => by
    have hf := (Fr.refl (· = M) w).setCell (a := ⟨M, 7, none⟩) rfl (.int .i64 x)
    unfold armS
    rw [hx]
    refine ⟨h.ofA hf hM (armed := x) (down := S.down) ?_ (by omega), hf⟩
    rw [set_self g6]
    exact hset_same _ hM
  have FIN := Lib.hid fin
  clear hM fin g6 hsz
  rcases (by omega : n < 0 ∨ n = 0 ∨ 0 < n) with h1 | rfl | h1
  · go_enter Try.func13, Try.ntmps13
    go_wp2
    go_end0
    exact ⟨rfl, FIN.out _ (by omega)⟩
  · go_enter Try.func13, Try.ntmps13
    go_wp2
    go_end0
    exact ⟨rfl, FIN.out _ (by omega)⟩
  · go_enter Try.func13, Try.ntmps13
    go_wp2
    go_end0
    exact ⟨rfl, FIN.out _ (by omega)⟩

set_option maxHeartbeats 1000000 in
theorem rlose_any {w : World} {M : Nat} {S : St} (h : RefIs w M S) (disk : Int) :
    Calls Try.prog 17 #[.pointer (some ⟨M, 0, none⟩), .int .i64 disk] w fun e w' => e = .returned (.tuple #[]) ∧ RefIs w' M (loseS S disk) ∧ Fr (· = M) w w' := by
  by_cases hr : disk < 0
  · have e0 : loseS S disk = S := by unfold loseS; rw [if_pos (.inl hr)]
    rw [e0]
    go_enter Try.func17, Try.ntmps17
    go_wp2
    go_end0
    exact ⟨rfl, h, Fr.refl _ _⟩
  · by_cases hr2 : 2 < disk
    · have e0 : loseS S disk = S := by unfold loseS; rw [if_pos (.inr hr2)]
      rw [e0]
      go_enter Try.func17, Try.ntmps17
      go_wp2
      go_end0
      exact ⟨rfl, h, Fr.refl _ _⟩
    · obtain ⟨d, rfl⟩ : ∃ d : Nat, disk = d := ⟨disk.toNat, by omega⟩
      have hd3 : d < 3 := by omega
      have hd3i : (d : Int) < 3 := by omega
      have hd2 : (d : Int) ≤ 2 := by omega
      have e0 : loseS S d = { S with sf := upd S.sf d [], lo := upd S.lo d [] } := by unfold loseS; rw [if_neg (by omega)]; rfl
      rw [e0]
      obtain ⟨cs, v, hM, g1, g2, g6, g7, hsz, _⟩ := h.at hd3
      have c1 := cell_of_heap hM g1
      have c2 := cell_of_heap hM g2
      have f1 := frozen_of_heap (i := d) hM
      have f2 := frozen_of_heap (i := 3 + d) hM
      have fin : RefIs ((w.setCell ⟨M, d, none⟩ (.slice none 0 0)).setCell ⟨M, 3 + d, none⟩ (.int .i64 0)) M { S with sf := upd S.sf d [], lo := upd S.lo d [] } ∧ Fr (· = M) w ((w.setCell ⟨M, d, none⟩ (.slice none 0 0)).setCell ⟨M, 3 + d, none⟩ (.int .i64 0)) := by
        have hf := ((Fr.refl (· = M) w).setCell (a := ⟨M, d, none⟩) rfl (.slice none 0 0)).setCell (S := (· = M)) (a := ⟨M, 3 + d, none⟩) rfl (.int .i64 0)
        exact ⟨h.ofD hf hM hd3 (v := .slice none 0 0) (xs := []) (ys := []) (hset_same _ (hset_same _ hM)) (Sb.nil _) (by simp), hf⟩
      have FIN := Lib.hid fin
      clear hM fin g1 g2 g6 g7 hsz
      go_enter Try.func17, Try.ntmps17
      go_wp2
      go_region
      go_end0
      exact ⟨rfl, FIN.out.1.below ((Below.refl _ _).drew), FIN.out.2.drew⟩

set_option maxHeartbeats 400000 in
theorem rcopy_any {w : World} {M : Nat} {S : St} (h : RefIs w M S) :
    Calls Try.prog 19 #[.pointer (some ⟨M, 0, none⟩)] w fun e w' => ∃ M', e = .returned (.pointer (some ⟨M', 0, none⟩)) ∧ RefIs w' M' S ∧ w.heap.size ≤ M' ∧ Below w.heap.size w w' := by
  obtain ⟨d0, d1, d2, hM, a0, a1, a2⟩ := h.heap
  have hb := h.bound
  have ha := h.armed
  obtain ⟨x0, y0, rfl⟩ := a0.shape
  obtain ⟨x1, y1, rfl⟩ := a1.shape
  obtain ⟨x2, y2, rfl⟩ := a2.shape
  rw [List.length_append] at a0 a1 a2
  have hby := fun o => Byt.of_below (below_alloc w o)
  have c0 := cell_of_heap (i := 0) hM rfl
  have c1 := cell_of_heap (i := 1) hM rfl
  have c2 := cell_of_heap (i := 2) hM rfl
  have c3 := cell_of_heap (i := 3) hM rfl
  have c4 := cell_of_heap (i := 4) hM rfl
  have c5 := cell_of_heap (i := 5) hM rfl
  have c6 := cell_of_heap (i := 6) hM rfl
  have c7 := cell_of_heap (i := 7) hM rfl
  clear hM
  go_enter Try.func19, Try.ntmps19
  go_wp2
  go_ret
  exact ⟨_, rfl, ⟨⟨_, _, _, heap_alloc_new _ _, a0.byt (hby _), a1.byt (hby _), a2.byt (hby _)⟩, hb, ha⟩, Nat.le_refl _, below_alloc _ _⟩
end Go.Proofs.Ytlelbkljhbkjdaa
