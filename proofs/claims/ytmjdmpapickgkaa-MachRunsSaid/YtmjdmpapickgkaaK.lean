/- General lemmas over the model's memory (no program in sight): slices that read as lists of cells, and append over them. -/
import Derived.WalkKit
import Derived.WalkSpells
import Derived.WalkLawsBesides
import Derived.Lib.Hide
import Derived.Lib.BufferMore
import Derived.Deep.RegionHeld3
import Derived.Deep.RegionWith
import Derived.Deep.RegionLaw
import Derived.Maps.AppendAt
import Derived.Lib.AppendZeros
import Derived.Laws.AppendOwnNone
namespace Go.Kk
open Go.RowKit

/-- The cells from offset off of block b on read as xs. -/
def Cells (w : World) (b off : Nat) (xs : List Value) : Prop := ∀ j u, xs[j]? = some u → w.cell? ⟨b, off + j, none⟩ = some u

/-- v is a slice of n elements of sz cells each, which read as xs. (A slice of no elements may lie wherever it likes.) -/
def Sl (w : World) (sz : Nat) (v : Value) (n : Nat) (xs : List Value) : Prop :=
  xs.length = n * sz ∧ ((v = .slice none 0 0 ∧ n = 0) ∨ (∃ b off cap, v = .slice (some ⟨b, off, none⟩) n cap ∧ n ≤ cap ∧ Cells w b off xs) ∨ ∃ a cap, v = .slice (some a) n cap ∧ n = 0)

/-- what the type table says of a slice type and its elements -/
structure SlT (P : Program) (t e : TypeId) (sz bytes : Nat) (z : Value) : Prop where
  ht : P.underlying t = some (.slice e)
  hi : ∃ i, P.info? e = some i ∧ i.zero = some z ∧ i.size = sz ∧ i.bytes = bytes
  hz : z.cells.size = sz
  pos : 0 < sz

/-- every cell that is there reads the same later -/
def Keeps (w w' : World) : Prop := ∀ a u, w.cell? a = some u → w'.cell? a = some u

theorem Keeps.refl (w : World) : Keeps w w := fun _ _ h => h
theorem Keeps.trans {a b c : World} (h : Keeps a b) (k : Keeps b c) : Keeps a c := fun x u hx => k x u (h x u hx)
theorem Keeps.of_below {w w' : World} (h : Below w.heap.size w w') : Keeps w w' := fun a u hu => by
  rw [h.cell (World.block_lt_of_cell? w a hu)]; exact hu
theorem Keeps.drew (w : World) : Keeps w w.drew := fun _ _ h => h

theorem Cells.keeps {w w' : World} {b off : Nat} {xs : List Value} (h : Cells w b off xs) (k : Keeps w w') : Cells w' b off xs := fun j u hu => k _ _ (h j u hu)
theorem Sl.keeps {w w' : World} {sz n : Nat} {v : Value} {xs : List Value} (h : Sl w sz v n xs) (k : Keeps w w') : Sl w' sz v n xs := by
  refine ⟨h.1, ?_⟩
  rcases h.2 with h | ⟨b, off, cap, hv, hc, hx⟩ | h
  · exact .inl h
  · exact .inr (.inl ⟨b, off, cap, hv, hc, hx.keeps k⟩)
  · exact .inr (.inr h)

theorem Sl.nil (w : World) (sz : Nat) : Sl w sz (.slice none 0 0) 0 [] := ⟨by simp, .inl ⟨rfl, rfl⟩⟩

theorem Sl.of_own {w : World} {B : Nat} {e : TypeId} {sz : Nat} {v : Value} {n : Nat} {xs : List Value} (h : w.ownsRow B e sz v n xs) : Sl w sz v n xs := by
  refine ⟨h.1, ?_⟩
  rcases h.2 with hn | ⟨g, cap, cur, rfl, hb, hg, hnc, _⟩
  · exact .inl hn
  · refine .inr (.inl ⟨g, 0, cap, rfl, hnc, fun j u hu => ?_⟩)
    have := h.cells (g := g) rfl j u hu
    rwa [Addr.add_lit] at this

/-- the shape of the value -/
theorem Sl.shape {w : World} {sz n : Nat} {v : Value} {xs : List Value} (h : Sl w sz v n xs) : ∃ base cap, v = .slice base n cap := by
  rcases h.2 with ⟨rfl, rfl⟩ | ⟨b, off, cap, rfl, _⟩ | ⟨a, cap, rfl, _⟩
  · exact ⟨_, _, rfl⟩
  · exact ⟨_, _, rfl⟩
  · exact ⟨_, _, rfl⟩

/-- the first elements -/
theorem Sl.take {w : World} {sz n : Nat} {b off cap : Nat} {xs : List Value} (hl : xs.length = n * sz) (h : Cells w b off xs) (m : Nat) (hm : m ≤ n) (hc : n ≤ cap) :
    Sl w sz (.slice (some ⟨b, off, none⟩) m cap) m (xs.take (m * sz)) := by
  refine ⟨?_, .inr (.inl ⟨b, off, cap, rfl, by omega, fun j u hu => ?_⟩)⟩
  · rw [List.length_take, hl]; exact Nat.min_eq_left (Nat.mul_le_mul_right _ hm)
  · rw [List.getElem?_take] at hu
    split at hu
    · exact h j u hu
    · cases hu

/-- outside S, what was there is as it was -/
structure Fr (S : Nat → Prop) (w w' : World) : Prop where
  os : w'.os = w.os
  tape : w'.tape = w.tape
  output : w'.output = w.output
  size : w.heap.size ≤ w'.heap.size
  block : ∀ k, k < w.heap.size → ¬ S k → w'.heap[k]? = w.heap[k]?

theorem Fr.refl (S : Nat → Prop) (w : World) : Fr S w w := ⟨rfl, rfl, rfl, Nat.le_refl _, fun _ _ _ => rfl⟩
theorem Fr.trans {S : Nat → Prop} {a b c : World} (h : Fr S a b) (k : Fr S b c) : Fr S a c :=
  ⟨k.os.trans h.os, k.tape.trans h.tape, k.output.trans h.output, Nat.le_trans h.size k.size, fun i hi hs => (k.block i (Nat.lt_of_lt_of_le hi h.size) hs).trans (h.block i hi hs)⟩
theorem Fr.mono {S T : Nat → Prop} {w w' : World} (h : Fr S w w') (hs : ∀ k, S k → T k) : Fr T w w' := ⟨h.os, h.tape, h.output, h.size, fun k hk ht => h.block k hk fun x => ht (hs k x)⟩
theorem Fr.of_below {S : Nat → Prop} {w w' : World} (h : Below w.heap.size w w') : Fr S w w' := ⟨h.os, h.tape, h.output, h.size, fun k hk _ => h.block k hk⟩
theorem Fr.setCell {S : Nat → Prop} {w w' : World} (h : Fr S w w') {a : Addr} (ha : S a.block) (v : Value) : Fr S w (w'.setCell a v) :=
  h.trans ⟨rfl, rfl, rfl, by simp [World.setCell], fun k _ hs => Below.heap_setCell _ _ _ _ (fun e => hs (e ▸ ha))⟩
theorem Fr.drew {S : Nat → Prop} {w w' : World} (h : Fr S w w') : Fr S w w'.drew := ⟨h.os, h.tape, h.output, h.size, h.block⟩
theorem Fr.alloc {S : Nat → Prop} {w w' : World} (h : Fr S w w') (o : Obj) : Fr S w (w'.alloc o) := h.trans (Fr.of_below ((Below.refl _ _).alloc (Nat.le_refl _) o))
theorem Fr.cell {S : Nat → Prop} {w w' : World} (h : Fr S w w') {a : Addr} {u : Value} (hu : w.cell? a = some u) (hs : ¬ S a.block) : w'.cell? a = some u :=
  (World.cell?_of_block (h.block a.block (World.block_lt_of_cell? w a hu) hs)).trans hu
theorem Fr.below {S : Nat → Prop} {w w' : World} (h : Fr S w w') {B : Nat} (hB : B ≤ w.heap.size) (hs : ∀ k, S k → B ≤ k) : Below B w w' :=
  ⟨h.os, h.tape, h.output, h.size, fun k hk => h.block k (by omega) fun x => by have := hs k x; omega⟩

theorem hset_same {w : World} {b i : Nat} {cs : Array Value} {e : TypeId} {f : Nat × Nat} (v : Value) (h : w.heap[b]? = some (.cells cs e f)) :
    (w.setCell ⟨b, i, none⟩ v).heap[b]? = some (.cells (cs.setIfInBounds i v) e f) := by
  unfold World.setCell
  simp only [Array.getElem?_modify, if_true, h, Option.map_some, Option.isSome_none, Bool.false_eq_true, if_false]
theorem heap_lt {w : World} {b : Nat} {o : Obj} (h : w.heap[b]? = some o) : b < w.heap.size := (Array.getElem?_eq_some_iff.1 h).1
theorem cell_of_heap {w : World} {b i : Nat} {cs : Array Value} {e : TypeId} {f : Nat × Nat} {v : Value} (h : w.heap[b]? = some (.cells cs e f)) (hv : cs[i]? = some v) : w.cell? ⟨b, i, none⟩ = some v := by
  unfold World.cell?; rw [h]; simpa using hv
theorem frozen_of_heap {w : World} {b i : Nat} {cs : Array Value} {e : TypeId} (h : w.heap[b]? = some (.cells cs e (0, 0))) : w.frozen? ⟨b, i, none⟩ = false := by
  unfold World.frozen?; rw [h]; simp
theorem own_mono {w : World} {B B' : Nat} {e : TypeId} {sz : Nat} {v : Value} {n : Nat} {xs : List Value} (h : w.ownsRow B e sz v n xs) (hb : B' ≤ B) : w.ownsRow B' e sz v n xs := by
  refine ⟨h.1, ?_⟩
  rcases h.2 with h | ⟨g, cap, cur, hv, hg, r⟩
  · exact .inl h
  · exact .inr ⟨g, cap, cur, hv, by omega, r⟩

theorem below_new (w : World) (o : Obj) : Below w.heap.size w (w.alloc o).drew := ((Below.refl _ _).alloc (Nat.le_refl _) _).drew
theorem size_new (w : World) (o : Obj) : (w.alloc o).drew.heap.size = w.heap.size + 1 := by simp
theorem keeps_new (w : World) (o : Obj) : Keeps w (w.alloc o).drew := Keeps.of_below (below_new w o)
theorem heap_new (w : World) (o : Obj) : (w.alloc o).drew.heap[w.heap.size]? = some o := heap_alloc_new w o
theorem new0 (w : World) (x y : Value) (t : TypeId) : (w.alloc (.cells #[x, y] t)).drew.cell? ⟨w.heap.size, 0, none⟩ = some x := by unfold World.cell?; rw [heap_new]; rfl
theorem new1 (w : World) (x y : Value) (t : TypeId) : (w.alloc (.cells #[x, y] t)).drew.cell? ⟨w.heap.size, 0 + 1, none⟩ = some y := by unfold World.cell?; rw [heap_new]; rfl
theorem newA (W : World) (b : Nat) (cs : Array Value) (t : TypeId) (i : Nat) (v : Value) (hb : b = W.heap.size) (hv : cs[i]? = some v) : (W.alloc (.cells cs t)).cell? ⟨b, i, none⟩ = some v := by
  subst hb; exact cell_of_heap (heap_alloc_new W _) hv
theorem below_alloc (w : World) (o : Obj) : Below w.heap.size w (w.alloc o) := (Below.refl _ _).alloc (Nat.le_refl _) _
theorem below_alloc2 (w : World) (o o' : Obj) : Below w.heap.size w ((w.alloc o).alloc o') := (below_alloc w o).alloc (by simp) _
theorem below_of_new {w w1 : World} {o : Obj} (h : Below (w.alloc o).drew.heap.size (w.alloc o).drew w1) : Below w.heap.size w w1 :=
  (below_new w o).trans (h.mono (by rw [size_new]; omega))

section
variable {P : Program} {w : World} {ops : Array Oper} {rest : List Oper} {o : Oper} {a : Act} {Q : Exit → Act → World → Prop}

theorem wpList_append_at (hgd : o.guard = none) (s x : Operand) (t : TypeId) (ho : o.op = .call { callee := .builtin .append, args := #[s, x], argTypes := #[t, t] })
    {e : TypeId} {sz bytes : Nat} {z : Value} (T : SlT P t e sz bytes z) {B : Nat} (v : Value) {n : Nat} {xs : List Value} (hs : a.eval s = v) (hown : w.ownsRow B e sz v n xs)
    {vx : Value} {m : Nat} {news : List Value} (hx : a.eval x = vx) (hsl : Sl w sz vx m news) (h1 : ∀ u ∈ news, u.oneCell' = true)
    (h63 : n + m ≤ maxLen) (hbytes : (n + m) * bytes ≤ 140737488355328) (hB : B ≤ w.heap.size) (k : Nat) (ys : List Value) (hk : n + m = k) (hys : xs ++ news = ys)
    (h : ∀ v' w', w'.ownsRow B e sz v' k ys → w.grownBy w' v.ownBlock → (v'.ownBlock = v.ownBlock ∨ v'.ownBlock = some w.heap.size) → wpList P ops Q rest (a.put o.dst v') w') : wpList P ops Q (o :: rest) a w := by
  subst hk
  subst hys
  obtain ⟨i, hi, hz, hsz, hby⟩ := T.hi
  rcases hsl.2 with ⟨rfl, rfl⟩ | ⟨b, off, cap, rfl, _, hc⟩ | ⟨ad, cap, rfl, rfl⟩
  · have hn : news = [] := List.eq_nil_of_length_eq_zero (by simpa using hsl.1)
    subst hn
    refine wpList_append_own_none hgd s x t ho B e i sz T.ht hi v n xs hs hown hx (h v w ?_ ⟨rfl, rfl, rfl, Nat.le_refl _, fun _ _ _ => rfl⟩ (.inl rfl))
    simpa using hown
  · refine wpList_append_own_at w hgd s x t ho B e i z sz bytes T.ht hi hz hsz hby T.hz T.pos v n xs hs hown ⟨b, off, none⟩ m cap news hx hsl.1 ?_ h1 h63 hbytes hB fun v' w' h1 h2 _ h4 => h v' w' h1 h2 h4
    intro j u hu
    rw [Addr.add_lit]
    exact hc j u hu
  · have hn : news = [] := List.eq_nil_of_length_eq_zero (by simpa using hsl.1)
    subst hn
    exact wpList_append_own_at w hgd s x t ho B e i z sz bytes T.ht hi hz hsz hby T.hz T.pos v n xs hs hown ad 0 cap [] hx hsl.1 (fun j u hu => by simp at hu) h1 h63 hbytes hB fun v' w' h1 h2 _ h4 => h v' w' h1 h2 h4
end

/-- a slice over a new block that holds just it -/
theorem Sl.new (w : World) (cs : List Value) (e : TypeId) (sz n : Nat) (hl : cs.length = n * sz) : Sl (w.alloc (.cells cs.toArray e)) sz (.slice (some ⟨w.heap.size, 0, none⟩) n n) n cs :=
  ⟨hl, .inr (.inl ⟨_, _, _, rfl, Nat.le_refl _, fun j u hu => newA _ _ _ _ _ _ rfl (by simpa using hu)⟩)⟩

/-- append as one step of a region that draws its order -/
theorem step_append {P : Program} {w : World} {ops : Array Oper} {o : Oper} {a : Act} {Q : Exit → Act → World → Prop} {K : Act → World → Prop} {E : Prop} (hgd : o.guard = none) (s x : Operand) (t : TypeId)
    (ho : o.op = .call { callee := .builtin .append, args := #[s, x], argTypes := #[t, t] })
    {e : TypeId} {sz bytes : Nat} {z : Value} (T : SlT P t e sz bytes z) {B : Nat} {v : Value} {n : Nat} {xs : List Value} (hs : a.eval s = v) (hown : w.ownsRow B e sz v n xs)
    {vx : Value} {m : Nat} {news : List Value} (hx : a.eval x = vx) (hsl : Sl w sz vx m news) (h1 : ∀ u ∈ news, u.oneCell' = true)
    (h63 : n + m ≤ maxLen) (hbytes : (n + m) * bytes ≤ 140737488355328) (hB : B ≤ w.heap.size) (k : Nat) (ys : List Value) (hk : n + m = k) (hys : xs ++ news = ys)
    (h : ∀ v' w', w'.ownsRow B e sz v' k ys → w.grownBy w' v.ownBlock → K (a.put o.dst v') w') :
    if Region.wanted o (yielded ops a.tmps) = true then Oper.wp P o a w K Q else E := by
  subst hk
  subst hys
  have hw : Region.wanted o (yielded ops a.tmps) = true := by simp [Region.wanted, hgd]
  rw [if_pos hw]
  obtain ⟨i, hi, hz, hsz, hby⟩ := T.hi
  rcases hsl.2 with ⟨rfl, rfl⟩ | ⟨b, off, cap, rfl, _, hc⟩ | ⟨ad, cap, rfl, rfl⟩
  · have hn : news = [] := List.eq_nil_of_length_eq_zero (by simpa using hsl.1)
    subst hn
    have hrun := run_append_owned_none (P := P) (w := w) B t o.type e i sz T.ht hi v n xs hown
    have hk := h v w (by simpa using hown) ⟨rfl, rfl, rfl, Nat.le_refl _, fun _ _ _ => rfl⟩
    unfold Oper.wp
    simp [execOp, ho, resolve, invoke, builtin, hs, hx, hrun, Result.andThen]
    exact hk
  · refine wp_append_own w s x t ho B e i z sz bytes T.ht hi hz hsz hby T.hz T.pos v n xs hs hown ⟨b, off, none⟩ m cap news hx hsl.1 ?_ h1 h63 hbytes hB fun v' w' h1 h2 _ => h v' w' h1 h2
    intro j u hu
    rw [Addr.add_lit]
    exact hc j u hu
  · have hn : news = [] := List.eq_nil_of_length_eq_zero (by simpa using hsl.1)
    subst hn
    exact wp_append_own w s x t ho B e i z sz bytes T.ht hi hz hsz hby T.hz T.pos v n xs hs hown ad 0 cap [] hx hsl.1 (fun j u hu => by simp at hu) h1 h63 hbytes hB fun v' w' h1 h2 _ => h v' w' h1 h2

theorem newH (W : World) (b : Nat) (o : Obj) (hb : b = W.heap.size) : (W.alloc o).heap[b]? = some o := by subst hb; exact heap_alloc_new _ _
theorem newD (W : World) (b : Nat) (cs : Array Value) (t : TypeId) (i : Nat) (v : Value) (hb : b = W.heap.size) (hv : cs[i]? = some v) : (W.alloc (.cells cs t)).drew.cell? ⟨b, i, none⟩ = some v := newA W b cs t i v hb hv
theorem below_of_drew {B : Nat} {w w' : World} (h : Below B w.drew w') : Below B w w' := ⟨h.os, h.tape, h.output, h.size, h.block⟩
theorem set_self {cs : Array Value} {i : Nat} {v : Value} (h : cs[i]? = some v) : cs.setIfInBounds i v = cs := by
  apply Array.ext_getElem?
  intro j
  rw [Array.getElem?_setIfInBounds]
  split
  · rename_i e
    subst e
    split
    · exact h.symm
    · rename_i hlt
      rw [Array.getElem?_eq_none (by omega)]
  · rfl
theorem dis_swap {a b : Option Nat} (h : a = none ∨ a ≠ b) : b = none ∨ b ≠ a := by
  cases b with
  | none => exact .inl rfl
  | some y => rcases h with rfl | h
              · exact .inr (by simp)
              · exact .inr fun e => h e.symm
theorem dis_step {a b b' : Option Nat} {H : Nat} (hd : a = none ∨ a ≠ b) (hat : b' = b ∨ b' = some H) (hlt : ∀ k, a = some k → k < H) : a = none ∨ a ≠ b' := by
  rcases hat with rfl | rfl
  · exact hd
  · cases a with
    | none => exact .inl rfl
    | some x => exact .inr fun e => by have := hlt x rfl; injection e with e; omega
theorem plain_add {b off : Nat} (j : Nat) : (⟨b, off, none⟩ : Addr).add j = ⟨b, off + j, none⟩ := by unfold Addr.add; split <;> simp_all

end Go.Kk
