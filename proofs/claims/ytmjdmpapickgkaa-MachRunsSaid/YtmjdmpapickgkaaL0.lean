import Derived.Test.YtmjdmpapickgkaaV9
import Derived.Test.YtmjdmpapickgkaaRows
import Derived.ProofKit
import Derived.OpenShut
import Derived.ChangeOld
import Derived.Deep.Slices
namespace Go.Proofs.Ytmjdmpapickgkaa
open Go.ChangeShapes Go.WideShapes Go.ChangeAt Go.RowKit Go.Kk

theorem i64_of_wf {n : Int} (h : (Lit.int .i64 n).wf = true) : -9223372036854775808 ≤ n ∧ n ≤ 9223372036854775807 := by
  simpa [Lit.wf, IntKind.min, IntKind.max, IntKind.signed, IntKind.bits] using h

theorem flat_len {α : Type} (k : Nat) (c : α → List Value) (l : List α) (h : ∀ x ∈ l, (c x).length = k) : (l.flatMap c).length = l.length * k := by
  induction l with
  | nil => simp
  | cons a l ih => rw [List.flatMap_cons, List.length_append, h a (by simp), ih (fun x hx => h x (by simp [hx])), List.length_cons, Nat.succ_mul]; omega
theorem flat_cells {α : Type} (k : Nat) (hk : 0 < k) (c : α → List Value) (n : Nat) (f : Nat → α) (w : World) (b off : Nat) (hc : ∀ i, i < n → (c (f i)).length = k) (h : ∀ i r, i < n → r < k → w.cell? ⟨b, off + (i * k + r), none⟩ = (c (f i))[r]?) :
    Cells w b off (((List.range n).map f).flatMap c) := by
  intro j u hu
  have hl : (((List.range n).map f).flatMap c).length = n * k := by
    rw [List.length_flatMap]
    have : ∀ m, m ≤ n → (((List.range m).map f).map fun x => (c x).length).sum = m * k := by
      intro m
      induction m with
      | zero => intro _; simp
      | succ m ih =>
        intro hm
        rw [List.range_succ, List.map_append, List.map_append, List.sum_append, ih (by omega)]
        simp [hc m (by omega), Nat.succ_mul]
    exact this n (Nat.le_refl _)
  have hj : j < n * k := by
    rw [← hl]
    rcases Nat.lt_or_ge j ((((List.range n).map f).flatMap c).length) with h | h
    · exact h
    · rw [List.getElem?_eq_none h] at hu; cases hu
  have hi : j / k < n := (Nat.div_lt_iff_lt_mul hk).2 hj
  have hr : j % k < k := Nat.mod_lt _ hk
  have e : j = j / k * k + j % k := by rw [Nat.mul_comm]; exact (Nat.div_add_mod _ _).symm
  have hm : ∀ x ∈ (List.range n).map f, (c x).length = k := by
    intro x hx
    obtain ⟨i, hi, rfl⟩ := List.mem_map.1 hx
    exact hc i (by simpa using hi)
  have := flatMap_get c k ((List.range n).map f) hm (j / k) (by simpa using hi) (j % k) hr
  rw [← e] at this
  rw [this] at hu
  simp only [List.getElem_map, List.getElem_range] at hu
  rw [e, h _ _ hi hr]
  exact hu

instance : Inhabited Src := ⟨⟨0, 0, 0⟩⟩
section
variable {H : Type} {enc : TypeId × Value → H} {w : World} {base : Nat} {spare : Nat → Bool} {held : Bool}

/-- a field of a struct that came in -/
theorem field_of {fs : Array Field} {i t o k : Nat} {n : Nat} {cs : List Value} {xs : List (DataW H × List MemPlace)} (hl : xs.length = fs.size)
    (hx : ∀ (i : Nat) (f : Field), fs[i]? = some f → DataW.trod enc Try.prog w base spare held n f.type ((cs.drop f.offset).take (Try.prog.cellsOf f.type)) = xs[i]?)
    (hf : (fs[i]?).map (fun f => (f.type, f.offset)) = some (t, o)) (hk : Try.prog.cellsOf t = k) : ∃ y, DataW.trod enc Try.prog w base spare held n t ((cs.drop o).take k) = some y := by
  cases h : fs[i]? with
  | none => rw [h] at hf; cases hf
  | some f =>
    rw [h] at hf
    simp at hf
    obtain ⟨rfl, rfl⟩ := hf
    have := hx i f h
    rw [hk] at this
    have hi : i < fs.size := (Array.getElem?_eq_some_iff.1 h).1
    rw [List.getElem?_eq_getElem (by omega)] at this
    exact ⟨_, this⟩

theorem open_src {fuel : Nat} {cs : List Value} {x : DataW H × List MemPlace} (hlen : cs.length = 3) (h : DataW.trod enc Try.prog w base spare held fuel 52 cs = some x) : ∃ s : Src, cs = s.cells := by
  obtain ⟨xs, n, _, _, _, hl, hx⟩ := DataW.trod_struct Try.underlying52 h
  obtain ⟨y0, e0⟩ := field_of (i := 0) (t := 3) (o := 0) hl hx rfl (k := 1) (by kernel_rfl)
  obtain ⟨y1, e1⟩ := field_of (i := 1) (t := 3) (o := 1) hl hx rfl (k := 1) (by kernel_rfl)
  obtain ⟨y2, e2⟩ := field_of (i := 2) (t := 3) (o := 2) hl hx rfl (k := 1) (by kernel_rfl)
  match cs, hlen with
  | [c0, c1, c2], _ =>
    simp only [List.drop_succ_cons, List.drop_zero, List.take_succ_cons, List.take_zero] at e0 e1 e2
    obtain ⟨n0, g0, _, w0⟩ := DataW.trod_int (show Try.prog.underlying 3 = some (.int .i64) by kernel_rfl) e0
    obtain ⟨n1, g1, _, w1⟩ := DataW.trod_int (show Try.prog.underlying 3 = some (.int .i64) by kernel_rfl) e1
    obtain ⟨n2, g2, _, w2⟩ := DataW.trod_int (show Try.prog.underlying 3 = some (.int .i64) by kernel_rfl) e2
    simp at g0 g1 g2
    subst g0 g1 g2
    exact ⟨⟨n0, n1, n2⟩, rfl⟩

theorem open_srcs {fuel : Nat} {v : Value} {x : DataW H × List MemPlace} (h : DataW.trod enc Try.prog w base spare held fuel 35 [v] = some x) : ∃ l : List Src, IsSrcs w v l ∧ l.length ≤ maxLen := by
  rcases Go.Deep.open_slice (show Try.prog.underlying 35 = some (.slice 52) by kernel_rfl) h with ⟨hcs, _⟩ | ⟨a, len, cap, m, n, D, Pl, hcs, _, hl, hm, hmm, _, hx⟩
  · obtain rfl : v = .slice none 0 0 := by simpa using hcs
    exact ⟨[], Sl.nil w 3, Nat.zero_le _⟩
  · obtain rfl : v = .slice (some a) len cap := by simpa using hcs
    have hlm : len ≤ m := by rw [hmm]; split <;> omega
    have h3 : Try.prog.cellsOf 52 = 3 := by kernel_rfl
    rw [h3] at hx
    by_cases h0 : len = 0
    · subst h0
      exact ⟨[], ⟨rfl, .inr (.inr ⟨_, _, rfl, rfl⟩)⟩, Nat.zero_le _⟩
    · obtain ⟨b, off, spot⟩ := a
      have hspot : spot = none := by
        obtain ⟨cs, h1, _⟩ := hx 0 (by omega)
        obtain ⟨_, hl2, hc⟩ := World.cells?_some h1
        have := hc 0 (by omega)
        rw [List.getElem?_eq_getElem (by omega)] at this
        simpa [Addr.add] using World.cell?_spot this
      subst hspot
      have hM : ∀ i, i < len → ∃ s : Src, ∀ r, r < 3 → w.cell? ⟨b, off + (i * 3 + r), none⟩ = s.cells[r]? := by
        intro i hi
        obtain ⟨cs, h1, h2⟩ := hx i (by omega)
        obtain ⟨_, hl2, hc⟩ := World.cells?_some h1
        obtain ⟨s, rfl⟩ := open_src hl2 h2
        refine ⟨s, fun r hr => ?_⟩
        have := hc r hr
        rw [plain_add, plain_add, Nat.add_assoc] at this
        exact this
      obtain ⟨f, hf⟩ := Go.Deep.choose_lt (α := Src) (p := fun i s => ∀ r, r < 3 → w.cell? ⟨b, off + (i * 3 + r), none⟩ = s.cells[r]?) hM
      refine ⟨(List.range len).map f, ⟨?_, .inr (.inl ⟨b, off, cap, by simp, by simpa using hl, flat_cells 3 (by omega) Src.cells len f w b off (fun _ _ => rfl) (fun i r hi hr => hf i hi r hr)⟩)⟩, by simp; omega⟩
      exact flat_len 3 _ _ fun _ _ => rfl

theorem open_op {fuel : Nat} {cs : List Value} {x : DataW H × List MemPlace} (hlen : cs.length = 6) (h : DataW.trod enc Try.prog w base spare held fuel 37 cs = some x) : ∃ o : Opn, cs = o.cells ∧ IsSrcs w o.h o.src ∧ o.src.length ≤ maxLen := by
  obtain ⟨xs, n, _, _, _, hl, hx⟩ := DataW.trod_struct Try.underlying37 h
  obtain ⟨y0, e0⟩ := field_of (i := 0) (t := 3) (o := 0) hl hx rfl (k := 1) (by kernel_rfl)
  obtain ⟨y1, e1⟩ := field_of (i := 1) (t := 34) (o := 1) hl hx rfl (k := 2) (by kernel_rfl)
  obtain ⟨y2, e2⟩ := field_of (i := 2) (t := 3) (o := 3) hl hx rfl (k := 1) (by kernel_rfl)
  obtain ⟨y3, e3⟩ := field_of (i := 3) (t := 3) (o := 4) hl hx rfl (k := 1) (by kernel_rfl)
  obtain ⟨y4, e4⟩ := field_of (i := 4) (t := 35) (o := 5) hl hx rfl (k := 1) (by kernel_rfl)
  match cs, hlen with
  | [c0, c1, c2, c3, c4, c5], _ =>
    simp only [List.drop_succ_cons, List.drop_zero, List.take_succ_cons, List.take_zero] at e0 e1 e2 e3 e4
    obtain ⟨n0, g0, _, w0⟩ := DataW.trod_int (show Try.prog.underlying 3 = some (.int .i64) by kernel_rfl) e0
    obtain ⟨ys, n', _, _, _, hyl, hy⟩ := DataW.trod_array (show Try.prog.underlying 34 = some (.array 2 3) by kernel_rfl) e1
    rw [show Try.prog.cellsOf 3 = 1 by kernel_rfl] at hy
    have k0 := hy 0 (by omega)
    have k1 := hy 1 (by omega)
    rw [List.getElem?_eq_getElem (by omega)] at k0 k1
    obtain ⟨n1, g1, _, w1⟩ := DataW.trod_int (show Try.prog.underlying 3 = some (.int .i64) by kernel_rfl) k0
    obtain ⟨n2, g2, _, w2⟩ := DataW.trod_int (show Try.prog.underlying 3 = some (.int .i64) by kernel_rfl) k1
    obtain ⟨n3, g3, _, w3⟩ := DataW.trod_int (show Try.prog.underlying 3 = some (.int .i64) by kernel_rfl) e2
    obtain ⟨n4, g4, _, w4⟩ := DataW.trod_int (show Try.prog.underlying 3 = some (.int .i64) by kernel_rfl) e3
    obtain ⟨l, hs, hll⟩ := open_srcs e4
    simp at g0 g1 g2 g3 g4
    subst g0 g1 g2 g3 g4
    exact ⟨⟨n0, n1, n2, n3, n4, c5, l⟩, rfl, hs, hll⟩

theorem open_prog {fuel : Nat} {v : Value} {x : DataW H × List MemPlace} (h : DataW.trod enc Try.prog w base spare held fuel 22 [v] = some x) : ∃ p : List Opn, IsProg w v p ∧ p.length ≤ maxLen ∧ ∀ o ∈ p, o.src.length ≤ maxLen := by
  rcases Go.Deep.open_slice (show Try.prog.underlying 22 = some (.slice 37) by kernel_rfl) h with ⟨hcs, _⟩ | ⟨a, len, cap, m, n, D, Pl, hcs, _, hl, hm, hmm, _, hx⟩
  · obtain rfl : v = .slice none 0 0 := by simpa using hcs
    exact ⟨[], ⟨Sl.nil w 6, by simp⟩, Nat.zero_le _, by simp⟩
  · obtain rfl : v = .slice (some a) len cap := by simpa using hcs
    have hlm : len ≤ m := by rw [hmm]; split <;> omega
    have h6 : Try.prog.cellsOf 37 = 6 := by kernel_rfl
    rw [h6] at hx
    by_cases h0 : len = 0
    · subst h0
      exact ⟨[], ⟨⟨rfl, .inr (.inr ⟨_, _, rfl, rfl⟩)⟩, by simp⟩, Nat.zero_le _, by simp⟩
    · obtain ⟨b, off, spot⟩ := a
      have hspot : spot = none := by
        obtain ⟨cs, h1, _⟩ := hx 0 (by omega)
        obtain ⟨_, hl2, hc⟩ := World.cells?_some h1
        have := hc 0 (by omega)
        rw [List.getElem?_eq_getElem (by omega)] at this
        simpa [Addr.add] using World.cell?_spot this
      subst hspot
      have hM : ∀ i, i < len → ∃ o : Opn, (∀ r, r < 6 → w.cell? ⟨b, off + (i * 6 + r), none⟩ = o.cells[r]?) ∧ IsSrcs w o.h o.src ∧ o.src.length ≤ maxLen := by
        intro i hi
        obtain ⟨cs, h1, h2⟩ := hx i (by omega)
        obtain ⟨_, hl2, hc⟩ := World.cells?_some h1
        obtain ⟨o, rfl, hs, hll⟩ := open_op hl2 h2
        refine ⟨o, fun r hr => ?_, hs, hll⟩
        have := hc r hr
        rw [plain_add, plain_add, Nat.add_assoc] at this
        exact this
      obtain ⟨f, hf⟩ := Go.Deep.choose_lt (α := Opn) (p := fun i o => (∀ r, r < 6 → w.cell? ⟨b, off + (i * 6 + r), none⟩ = o.cells[r]?) ∧ IsSrcs w o.h o.src ∧ o.src.length ≤ maxLen) hM
      refine ⟨(List.range len).map f, ⟨⟨?_, .inr (.inl ⟨b, off, cap, by simp, by simpa using hl, flat_cells 6 (by omega) Opn.cells len f w b off (fun _ _ => rfl) (fun i r hi hr => (hf i hi).1 r hr)⟩)⟩, fun o ho => ?_⟩, by simp; omega, fun o ho => ?_⟩
      · exact flat_len 6 _ _ fun _ _ => rfl
      · obtain ⟨i, hi, rfl⟩ := List.mem_map.1 ho
        exact (hf i (by simpa using hi)).2.1
      · obtain ⟨i, hi, rfl⟩ := List.mem_map.1 ho
        exact (hf i (by simpa using hi)).2.2
end
end Go.Proofs.Ytmjdmpapickgkaa
