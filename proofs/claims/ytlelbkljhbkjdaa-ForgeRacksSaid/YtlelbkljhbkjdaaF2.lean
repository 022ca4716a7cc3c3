import Derived.Test.YtlelbkljhbkjdaaF1
namespace Go.Proofs.Ytlelbkljhbkjdaa
open Go.ChangeShapes Go.WideShapes Go.ChangeAt Go.RowKit Go.Kk

section
variable {H : Type} {enc : TypeId × Value → H} {w : World} {base : Nat} {spare : Nat → Bool} {held : Bool}

theorem fields33 : ∃ fs : Array Field, Try.prog.underlying 33 = some (.struct fs) ∧ (fs[0]?).map (fun f => (f.type, f.offset)) = some (5, 0) ∧ (fs[1]?).map (fun f => (f.type, f.offset)) = some (3, 1) ∧ (fs[2]?).map (fun f => (f.type, f.offset)) = some (3, 2) ∧
    (fs[3]?).map (fun f => (f.type, f.offset)) = some (27, 3) ∧ (fs[4]?).map (fun f => (f.type, f.offset)) = some (29, 4) ∧ fs.size = 5 := ⟨_, Try.underlying33, rfl, rfl, rfl, rfl, rfl, rfl⟩

/-- a field of a struct that came in -/
theorem field_of {fs : Array Field} {i t o k : Nat} {n : Nat} {cs : List Value} {xs : List (DataW H × List MemPlace)} (hl : xs.length = fs.size)
    (hx : ∀ (i : Nat) (f : Field), fs[i]? = some f → DataW.trod enc Try.prog w base spare held n f.type ((cs.drop f.offset).take (Try.prog.cellsOf f.type)) = xs[i]?)
    (hf : (fs[i]?).map (fun f => (f.type, f.offset)) = some (t, o)) (hk : Try.prog.cellsOf t = k) : ∃ y, DataW.trod enc Try.prog w base spare held n t ((cs.drop o).take k) = some y := by
  cases h : fs[i]? with
  | none => rw [h] at hf; cases hf
  | some f =>
    rw [h] at hf
    simp at hf
    obtain ⟨rfl, rfl⟩ := hf
    have := hx i f h
    rw [hk] at this
    have hi : i < fs.size := (Array.getElem?_eq_some_iff.1 h).1
    rw [List.getElem?_eq_getElem (by omega)] at this
    exact ⟨_, this⟩

/-- a move that came in -/
theorem open_move {fuel b o : Nat} {cs : List Value} {x : DataW H × List MemPlace} (hc : ∀ i, i < 7 → w.cell? ⟨b, o + i, none⟩ = cs[i]?) (hlen : cs.length = 7) (h : DataW.trod enc Try.prog w base spare held fuel 33 cs = some x) : ∃ m, MvAt w b o m := by
  obtain ⟨fs, hu, h0, h1, h2, h3, h4, hsz⟩ := fields33
  obtain ⟨xs, n, _, _, _, hl, hx⟩ := DataW.trod_struct hu h
  obtain ⟨y0, e0⟩ := field_of hl hx h0 (k := 1) (by kernel_rfl)
  obtain ⟨y1, e1⟩ := field_of hl hx h1 (k := 1) (by kernel_rfl)
  obtain ⟨y2, e2⟩ := field_of hl hx h2 (k := 1) (by kernel_rfl)
  obtain ⟨y3, e3⟩ := field_of hl hx h3 (k := 1) (by kernel_rfl)
  obtain ⟨y4, e4⟩ := field_of hl hx h4 (k := 3) (by kernel_rfl)
  match cs, hlen with
  | [c0, c1, c2, c3, c4, c5, c6], _ =>
    simp only [List.drop_succ_cons, List.drop_zero, List.take_succ_cons, List.take_zero] at e0 e1 e2 e3 e4
    obtain ⟨n0, g0, _, w0⟩ := DataW.trod_int (show Try.prog.underlying 5 = some (.int .u8) by kernel_rfl) e0
    obtain ⟨n1, g1, _, w1⟩ := DataW.trod_int (show Try.prog.underlying 3 = some (.int .i64) by kernel_rfl) e1
    obtain ⟨n2, g2, _, w2⟩ := DataW.trod_int (show Try.prog.underlying 3 = some (.int .i64) by kernel_rfl) e2
    obtain ⟨bs, hbs⟩ := open_bytes e3
    obtain ⟨ys, n', _, _, _, hyl, hy⟩ := DataW.trod_array (show Try.prog.underlying 29 = some (.array 3 3) by kernel_rfl) e4
    have hel : Try.prog.cellsOf 3 = 1 := by kernel_rfl
    rw [hel] at hy
    have k0 := hy 0 (by omega)
    have k1 := hy 1 (by omega)
    have k2 := hy 2 (by omega)
    rw [List.getElem?_eq_getElem (by omega)] at k0 k1 k2
    obtain ⟨n4, g4, _, w4⟩ := DataW.trod_int (show Try.prog.underlying 3 = some (.int .i64) by kernel_rfl) k0
    obtain ⟨n5, g5, _, w5⟩ := DataW.trod_int (show Try.prog.underlying 3 = some (.int .i64) by kernel_rfl) k1
    obtain ⟨n6, g6, _, w6⟩ := DataW.trod_int (show Try.prog.underlying 3 = some (.int .i64) by kernel_rfl) k2
    simp at g0 g1 g2 g4 g5 g6
    subst g0 g1 g2 g4 g5 g6
    have b0 := wf_u8 w0
    have b2 := wf_i64 w2
    exact ⟨⟨n0, n1, n2, bs, n4, n5, n6⟩, b0.1, b0.2, b2.2, by simpa using hc 0 (by omega), by simpa using hc 1 (by omega), by simpa using hc 2 (by omega), ⟨c3, by simpa using hc 3 (by omega), hbs⟩, by simpa using hc 4 (by omega), by simpa using hc 5 (by omega), by simpa using hc 6 (by omega)⟩

/-- what the walk is told of the moves -/
def IsMoves (w : World) (v : Value) : Prop :=
  (∃ base cap, v = .slice base 0 cap) ∨ ∃ (b off len cap : Nat) (ms : Nat → Mv), v = .slice (some ⟨b, off, none⟩) len cap ∧ len ≤ 9223372036854775807 ∧ ∀ i, i < len → MvAt w b (off + i * 7) (ms i)

instance : Inhabited Mv := ⟨⟨0, 0, 0, [], 0, 0, 0⟩⟩

theorem open_moves {fuel : Nat} {v : Value} {x : DataW H × List MemPlace} (h : DataW.trod enc Try.prog w base spare held fuel 22 [v] = some x) : IsMoves w v := by
  rcases Go.Deep.open_slice (show Try.prog.underlying 22 = some (.slice 33) by kernel_rfl) h with ⟨hcs, _⟩ | ⟨a, len, cap, m, n, D, Pl, hcs, _, hl, hm, hmm, _, hx⟩
  · obtain rfl : v = .slice none 0 0 := by simpa using hcs
    exact .inl ⟨_, _, rfl⟩
  · obtain rfl : v = .slice (some a) len cap := by simpa using hcs
    have hlm : len ≤ m := by rw [hmm]; split <;> omega
    have h7 : Try.prog.cellsOf 33 = 7 := by kernel_rfl
    rw [h7] at hx
    by_cases h0 : len = 0
    · subst h0
      exact .inl ⟨_, _, rfl⟩
    · obtain ⟨b, off, spot⟩ := a
      have hspot : spot = none := by
        obtain ⟨cs, h1, _⟩ := hx 0 (by omega)
        obtain ⟨_, hl2, hc⟩ := World.cells?_some h1
        have := hc 0 (by omega)
        rw [List.getElem?_eq_getElem (by omega)] at this
        simpa [Addr.add] using World.cell?_spot this
      subst hspot
      have hM : ∀ i, i < len → ∃ mv, MvAt w b (off + i * 7) mv := by
        intro i hi
        obtain ⟨cs, h1, h2⟩ := hx i (by omega)
        obtain ⟨_, hl2, hc⟩ := World.cells?_some h1
        refine open_move (fun j hj => ?_) hl2 h2
        have := hc j hj
        rw [plain_add, plain_add] at this
        exact this
      obtain ⟨f, hf⟩ := Go.Deep.choose_lt (α := Mv) (p := fun i m => MvAt w b (off + i * 7) m) hM
      exact .inr ⟨b, off, len, cap, f, rfl, by unfold maxLen at hm; omega, hf⟩
end
end Go.Proofs.Ytlelbkljhbkjdaa
