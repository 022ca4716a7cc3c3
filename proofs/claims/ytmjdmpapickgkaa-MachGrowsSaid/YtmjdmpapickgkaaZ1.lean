import Derived.WalkKit
import Derived.WalkSpells
import Derived.WalkLawsBesides
import Derived.Lib.Hide
import Derived.Lib.BufferMore
import Derived.Deep.RegionHeld3
import Derived.Deep.RegionWith
import Derived.Deep.RegionLaw
import Derived.Maps.AppendAt
import Derived.Lib.AppendZeros
import Derived.Laws.AppendOwnNone
import Derived.Test.YtmjdmpapickgkaaProg
/- General lemmas over the model's memory (no program in sight): slices that read as lists of cells, and append over them. -/
namespace Go.Kk
open Go.RowKit

/-- The cells from offset off of block b on read as xs. -/
def Cells (w : World) (b off : Nat) (xs : List Value) : Prop := ∀ j u, xs[j]? = some u → w.cell? ⟨b, off + j, none⟩ = some u

/-- v is a slice of n elements of sz cells each, which read as xs. (A slice of no elements may lie wherever it likes.) -/
def Sl (w : World) (sz : Nat) (v : Value) (n : Nat) (xs : List Value) : Prop :=
  xs.length = n * sz ∧ ((v = .slice none 0 0 ∧ n = 0) ∨ (∃ b off cap, v = .slice (some ⟨b, off, none⟩) n cap ∧ n ≤ cap ∧ Cells w b off xs) ∨ ∃ a cap, v = .slice (some a) n cap ∧ n = 0)

/-- what the type table says of a slice type and its elements -/
structure SlT (P : Program) (t e : TypeId) (sz bytes : Nat) (z : Value) : Prop where
  ht : P.underlying t = some (.slice e)
  hi : ∃ i, P.info? e = some i ∧ i.zero = some z ∧ i.size = sz ∧ i.bytes = bytes
  hz : z.cells.size = sz
  pos : 0 < sz

/-- every cell that is there reads the same later -/
def Keeps (w w' : World) : Prop := ∀ a u, w.cell? a = some u → w'.cell? a = some u

theorem Keeps.refl (w : World) : Keeps w w := fun _ _ h => h
theorem Keeps.trans {a b c : World} (h : Keeps a b) (k : Keeps b c) : Keeps a c := fun x u hx => k x u (h x u hx)
theorem Keeps.of_below {w w' : World} (h : Below w.heap.size w w') : Keeps w w' := fun a u hu => by
  rw [h.cell (World.block_lt_of_cell? w a hu)]; exact hu
theorem Keeps.drew (w : World) : Keeps w w.drew := fun _ _ h => h

theorem Cells.keeps {w w' : World} {b off : Nat} {xs : List Value} (h : Cells w b off xs) (k : Keeps w w') : Cells w' b off xs := fun j u hu => k _ _ (h j u hu)
theorem Sl.keeps {w w' : World} {sz n : Nat} {v : Value} {xs : List Value} (h : Sl w sz v n xs) (k : Keeps w w') : Sl w' sz v n xs := by
  refine ⟨h.1, ?_⟩
  rcases h.2 with h | ⟨b, off, cap, hv, hc, hx⟩ | h
  · exact .inl h
  · exact .inr (.inl ⟨b, off, cap, hv, hc, hx.keeps k⟩)
  · exact .inr (.inr h)

theorem Sl.nil (w : World) (sz : Nat) : Sl w sz (.slice none 0 0) 0 [] := ⟨by simp, .inl ⟨rfl, rfl⟩⟩

theorem Sl.of_own {w : World} {B : Nat} {e : TypeId} {sz : Nat} {v : Value} {n : Nat} {xs : List Value} (h : w.ownsRow B e sz v n xs) : Sl w sz v n xs := by
  refine ⟨h.1, ?_⟩
  rcases h.2 with hn | ⟨g, cap, cur, rfl, hb, hg, hnc, _⟩
  · exact .inl hn
  · refine .inr (.inl ⟨g, 0, cap, rfl, hnc, fun j u hu => ?_⟩)
    have := h.cells (g := g) rfl j u hu
    rwa [Addr.add_lit] at this

/-- the shape of the value -/
theorem Sl.shape {w : World} {sz n : Nat} {v : Value} {xs : List Value} (h : Sl w sz v n xs) : ∃ base cap, v = .slice base n cap := by
  rcases h.2 with ⟨rfl, rfl⟩ | ⟨b, off, cap, rfl, _⟩ | ⟨a, cap, rfl, _⟩
  · exact ⟨_, _, rfl⟩
  · exact ⟨_, _, rfl⟩
  · exact ⟨_, _, rfl⟩

/-- the first elements -/
theorem Sl.take {w : World} {sz n : Nat} {b off cap : Nat} {xs : List Value} (hl : xs.length = n * sz) (h : Cells w b off xs) (m : Nat) (hm : m ≤ n) (hc : n ≤ cap) :
    Sl w sz (.slice (some ⟨b, off, none⟩) m cap) m (xs.take (m * sz)) := by
  refine ⟨?_, .inr (.inl ⟨b, off, cap, rfl, by omega, fun j u hu => ?_⟩)⟩
  · rw [List.length_take, hl]; exact Nat.min_eq_left (Nat.mul_le_mul_right _ hm)
  · rw [List.getElem?_take] at hu
    split at hu
    · exact h j u hu
    · cases hu

/-- outside S, what was there is as it was -/
structure Fr (S : Nat → Prop) (w w' : World) : Prop where
  os : w'.os = w.os
  tape : w'.tape = w.tape
  output : w'.output = w.output
  size : w.heap.size ≤ w'.heap.size
  block : ∀ k, k < w.heap.size → ¬ S k → w'.heap[k]? = w.heap[k]?

theorem Fr.refl (S : Nat → Prop) (w : World) : Fr S w w := ⟨rfl, rfl, rfl, Nat.le_refl _, fun _ _ _ => rfl⟩
theorem Fr.trans {S : Nat → Prop} {a b c : World} (h : Fr S a b) (k : Fr S b c) : Fr S a c :=
  ⟨k.os.trans h.os, k.tape.trans h.tape, k.output.trans h.output, Nat.le_trans h.size k.size, fun i hi hs => (k.block i (Nat.lt_of_lt_of_le hi h.size) hs).trans (h.block i hi hs)⟩
theorem Fr.mono {S T : Nat → Prop} {w w' : World} (h : Fr S w w') (hs : ∀ k, S k → T k) : Fr T w w' := ⟨h.os, h.tape, h.output, h.size, fun k hk ht => h.block k hk fun x => ht (hs k x)⟩
theorem Fr.of_below {S : Nat → Prop} {w w' : World} (h : Below w.heap.size w w') : Fr S w w' := ⟨h.os, h.tape, h.output, h.size, fun k hk _ => h.block k hk⟩
theorem Fr.setCell {S : Nat → Prop} {w w' : World} (h : Fr S w w') {a : Addr} (ha : S a.block) (v : Value) : Fr S w (w'.setCell a v) :=
  h.trans ⟨rfl, rfl, rfl, by simp [World.setCell], fun k _ hs => Below.heap_setCell _ _ _ _ (fun e => hs (e ▸ ha))⟩
theorem Fr.drew {S : Nat → Prop} {w w' : World} (h : Fr S w w') : Fr S w w'.drew := ⟨h.os, h.tape, h.output, h.size, h.block⟩
theorem Fr.alloc {S : Nat → Prop} {w w' : World} (h : Fr S w w') (o : Obj) : Fr S w (w'.alloc o) := h.trans (Fr.of_below ((Below.refl _ _).alloc (Nat.le_refl _) o))
theorem Fr.cell {S : Nat → Prop} {w w' : World} (h : Fr S w w') {a : Addr} {u : Value} (hu : w.cell? a = some u) (hs : ¬ S a.block) : w'.cell? a = some u :=
  (World.cell?_of_block (h.block a.block (World.block_lt_of_cell? w a hu) hs)).trans hu
theorem Fr.below {S : Nat → Prop} {w w' : World} (h : Fr S w w') {B : Nat} (hB : B ≤ w.heap.size) (hs : ∀ k, S k → B ≤ k) : Below B w w' :=
  ⟨h.os, h.tape, h.output, h.size, fun k hk => h.block k (by omega) fun x => by have := hs k x; omega⟩

theorem hset_same {w : World} {b i : Nat} {cs : Array Value} {e : TypeId} {f : Nat × Nat} (v : Value) (h : w.heap[b]? = some (.cells cs e f)) :
    (w.setCell ⟨b, i, none⟩ v).heap[b]? = some (.cells (cs.setIfInBounds i v) e f) := by
  unfold World.setCell
  simp only [Array.getElem?_modify, if_true, h, Option.map_some, Option.isSome_none, Bool.false_eq_true, if_false]
theorem heap_lt {w : World} {b : Nat} {o : Obj} (h : w.heap[b]? = some o) : b < w.heap.size := (Array.getElem?_eq_some_iff.1 h).1
theorem cell_of_heap {w : World} {b i : Nat} {cs : Array Value} {e : TypeId} {f : Nat × Nat} {v : Value} (h : w.heap[b]? = some (.cells cs e f)) (hv : cs[i]? = some v) : w.cell? ⟨b, i, none⟩ = some v := by
  unfold World.cell?; rw [h]; simpa using hv
theorem frozen_of_heap {w : World} {b i : Nat} {cs : Array Value} {e : TypeId} (h : w.heap[b]? = some (.cells cs e (0, 0))) : w.frozen? ⟨b, i, none⟩ = false := by
  unfold World.frozen?; rw [h]; simp
theorem own_mono {w : World} {B B' : Nat} {e : TypeId} {sz : Nat} {v : Value} {n : Nat} {xs : List Value} (h : w.ownsRow B e sz v n xs) (hb : B' ≤ B) : w.ownsRow B' e sz v n xs := by
  refine ⟨h.1, ?_⟩
  rcases h.2 with h | ⟨g, cap, cur, hv, hg, r⟩
  · exact .inl h
  · exact .inr ⟨g, cap, cur, hv, by omega, r⟩

theorem below_new (w : World) (o : Obj) : Below w.heap.size w (w.alloc o).drew := ((Below.refl _ _).alloc (Nat.le_refl _) _).drew
theorem size_new (w : World) (o : Obj) : (w.alloc o).drew.heap.size = w.heap.size + 1 := by simp
theorem keeps_new (w : World) (o : Obj) : Keeps w (w.alloc o).drew := Keeps.of_below (below_new w o)
theorem heap_new (w : World) (o : Obj) : (w.alloc o).drew.heap[w.heap.size]? = some o := heap_alloc_new w o
theorem new0 (w : World) (x y : Value) (t : TypeId) : (w.alloc (.cells #[x, y] t)).drew.cell? ⟨w.heap.size, 0, none⟩ = some x := by unfold World.cell?; rw [heap_new]; rfl
theorem new1 (w : World) (x y : Value) (t : TypeId) : (w.alloc (.cells #[x, y] t)).drew.cell? ⟨w.heap.size, 0 + 1, none⟩ = some y := by unfold World.cell?; rw [heap_new]; rfl
theorem newA (W : World) (b : Nat) (cs : Array Value) (t : TypeId) (i : Nat) (v : Value) (hb : b = W.heap.size) (hv : cs[i]? = some v) : (W.alloc (.cells cs t)).cell? ⟨b, i, none⟩ = some v := by
  subst hb; exact cell_of_heap (heap_alloc_new W _) hv
theorem below_alloc (w : World) (o : Obj) : Below w.heap.size w (w.alloc o) := (Below.refl _ _).alloc (Nat.le_refl _) _
theorem below_alloc2 (w : World) (o o' : Obj) : Below w.heap.size w ((w.alloc o).alloc o') := (below_alloc w o).alloc (by simp) _
theorem below_of_new {w w1 : World} {o : Obj} (h : Below (w.alloc o).drew.heap.size (w.alloc o).drew w1) : Below w.heap.size w w1 :=
  (below_new w o).trans (h.mono (by rw [size_new]; omega))

section
variable {P : Program} {w : World} {ops : Array Oper} {rest : List Oper} {o : Oper} {a : Act} {Q : Exit → Act → World → Prop}

theorem wpList_append_at (hgd : o.guard = none) (s x : Operand) (t : TypeId) (ho : o.op = .call { callee := .builtin .append, args := #[s, x], argTypes := #[t, t] })
    {e : TypeId} {sz bytes : Nat} {z : Value} (T : SlT P t e sz bytes z) {B : Nat} (v : Value) {n : Nat} {xs : List Value} (hs : a.eval s = v) (hown : w.ownsRow B e sz v n xs)
    {vx : Value} {m : Nat} {news : List Value} (hx : a.eval x = vx) (hsl : Sl w sz vx m news) (h1 : ∀ u ∈ news, u.oneCell' = true)
    (h63 : n + m ≤ maxLen) (hbytes : (n + m) * bytes ≤ 140737488355328) (hB : B ≤ w.heap.size) (k : Nat) (ys : List Value) (hk : n + m = k) (hys : xs ++ news = ys)
    (h : ∀ v' w', w'.ownsRow B e sz v' k ys → w.grownBy w' v.ownBlock → (v'.ownBlock = v.ownBlock ∨ v'.ownBlock = some w.heap.size) → wpList P ops Q rest (a.put o.dst v') w') : wpList P ops Q (o :: rest) a w := by
  subst hk
  subst hys
  obtain ⟨i, hi, hz, hsz, hby⟩ := T.hi
  rcases hsl.2 with ⟨rfl, rfl⟩ | ⟨b, off, cap, rfl, _, hc⟩ | ⟨ad, cap, rfl, rfl⟩
  · have hn : news = [] := List.eq_nil_of_length_eq_zero (by simpa using hsl.1)
    subst hn
    refine wpList_append_own_none hgd s x t ho B e i sz T.ht hi v n xs hs hown hx (h v w ?_ ⟨rfl, rfl, rfl, Nat.le_refl _, fun _ _ _ => rfl⟩ (.inl rfl))
    simpa using hown
  · refine wpList_append_own_at w hgd s x t ho B e i z sz bytes T.ht hi hz hsz hby T.hz T.pos v n xs hs hown ⟨b, off, none⟩ m cap news hx hsl.1 ?_ h1 h63 hbytes hB fun v' w' h1 h2 _ h4 => h v' w' h1 h2 h4
    intro j u hu
    rw [Addr.add_lit]
    exact hc j u hu
  · have hn : news = [] := List.eq_nil_of_length_eq_zero (by simpa using hsl.1)
    subst hn
    exact wpList_append_own_at w hgd s x t ho B e i z sz bytes T.ht hi hz hsz hby T.hz T.pos v n xs hs hown ad 0 cap [] hx hsl.1 (fun j u hu => by simp at hu) h1 h63 hbytes hB fun v' w' h1 h2 _ h4 => h v' w' h1 h2 h4
end

/-- a slice over a new block that holds just it -/
theorem Sl.new (w : World) (cs : List Value) (e : TypeId) (sz n : Nat) (hl : cs.length = n * sz) : Sl (w.alloc (.cells cs.toArray e)) sz (.slice (some ⟨w.heap.size, 0, none⟩) n n) n cs :=
  ⟨hl, .inr (.inl ⟨_, _, _, rfl, Nat.le_refl _, fun j u hu => newA _ _ _ _ _ _ rfl (by simpa using hu)⟩)⟩

/-- append as one step of a region that draws its order -/
theorem step_append {P : Program} {w : World} {ops : Array Oper} {o : Oper} {a : Act} {Q : Exit → Act → World → Prop} {K : Act → World → Prop} {E : Prop} (hgd : o.guard = none) (s x : Operand) (t : TypeId)
    (ho : o.op = .call { callee := .builtin .append, args := #[s, x], argTypes := #[t, t] })
    {e : TypeId} {sz bytes : Nat} {z : Value} (T : SlT P t e sz bytes z) {B : Nat} {v : Value} {n : Nat} {xs : List Value} (hs : a.eval s = v) (hown : w.ownsRow B e sz v n xs)
    {vx : Value} {m : Nat} {news : List Value} (hx : a.eval x = vx) (hsl : Sl w sz vx m news) (h1 : ∀ u ∈ news, u.oneCell' = true)
    (h63 : n + m ≤ maxLen) (hbytes : (n + m) * bytes ≤ 140737488355328) (hB : B ≤ w.heap.size) (k : Nat) (ys : List Value) (hk : n + m = k) (hys : xs ++ news = ys)
    (h : ∀ v' w', w'.ownsRow B e sz v' k ys → w.grownBy w' v.ownBlock → K (a.put o.dst v') w') :
    if Region.wanted o (yielded ops a.tmps) = true then Oper.wp P o a w K Q else E := by
  subst hk
  subst hys
  have hw : Region.wanted o (yielded ops a.tmps) = true := by simp [Region.wanted, hgd]
  rw [if_pos hw]
  obtain ⟨i, hi, hz, hsz, hby⟩ := T.hi
  rcases hsl.2 with ⟨rfl, rfl⟩ | ⟨b, off, cap, rfl, _, hc⟩ | ⟨ad, cap, rfl, rfl⟩
  · have hn : news = [] := List.eq_nil_of_length_eq_zero (by simpa using hsl.1)
    subst hn
    have hrun := run_append_owned_none (P := P) (w := w) B t o.type e i sz T.ht hi v n xs hown
    have hk := h v w (by simpa using hown) ⟨rfl, rfl, rfl, Nat.le_refl _, fun _ _ _ => rfl⟩
    unfold Oper.wp
    simp [execOp, ho, resolve, invoke, builtin, hs, hx, hrun, Result.andThen]
    exact hk
  · refine wp_append_own w s x t ho B e i z sz bytes T.ht hi hz hsz hby T.hz T.pos v n xs hs hown ⟨b, off, none⟩ m cap news hx hsl.1 ?_ h1 h63 hbytes hB fun v' w' h1 h2 _ => h v' w' h1 h2
    intro j u hu
    rw [Addr.add_lit]
    exact hc j u hu
  · have hn : news = [] := List.eq_nil_of_length_eq_zero (by simpa using hsl.1)
    subst hn
    exact wp_append_own w s x t ho B e i z sz bytes T.ht hi hz hsz hby T.hz T.pos v n xs hs hown ad 0 cap [] hx hsl.1 (fun j u hu => by simp at hu) h1 h63 hbytes hB fun v' w' h1 h2 _ => h v' w' h1 h2

theorem newH (W : World) (b : Nat) (o : Obj) (hb : b = W.heap.size) : (W.alloc o).heap[b]? = some o := by subst hb; exact heap_alloc_new _ _
theorem newD (W : World) (b : Nat) (cs : Array Value) (t : TypeId) (i : Nat) (v : Value) (hb : b = W.heap.size) (hv : cs[i]? = some v) : (W.alloc (.cells cs t)).drew.cell? ⟨b, i, none⟩ = some v := newA W b cs t i v hb hv
theorem below_of_drew {B : Nat} {w w' : World} (h : Below B w.drew w') : Below B w w' := ⟨h.os, h.tape, h.output, h.size, h.block⟩
theorem set_self {cs : Array Value} {i : Nat} {v : Value} (h : cs[i]? = some v) : cs.setIfInBounds i v = cs := by
  apply Array.ext_getElem?
  intro j
  rw [Array.getElem?_setIfInBounds]
  split
  · rename_i e
    subst e
    split
    · exact h.symm
    · rename_i hlt
      rw [Array.getElem?_eq_none (by omega)]
  · rfl
theorem dis_swap {a b : Option Nat} (h : a = none ∨ a ≠ b) : b = none ∨ b ≠ a := by
  cases b with
  | none => exact .inl rfl
  | some y => rcases h with rfl | h
              · exact .inr (by simp)
              · exact .inr fun e => h e.symm
theorem dis_step {a b b' : Option Nat} {H : Nat} (hd : a = none ∨ a ≠ b) (hat : b' = b ∨ b' = some H) (hlt : ∀ k, a = some k → k < H) : a = none ∨ a ≠ b' := by
  rcases hat with rfl | rfl
  · exact hd
  · cases a with
    | none => exact .inl rfl
    | some x => exact .inr fun e => by have := hlt x rfl; injection e with e; omega
theorem plain_add {b off : Nat} (j : Nat) : (⟨b, off, none⟩ : Addr).add j = ⟨b, off + j, none⟩ := by unfold Addr.add; split <;> simp_all

end Go.Kk

namespace Go.Proofs.Ytmjdmpapickgkaa
open Go.RowKit Go.Kk

/-- a source of an operation -/
structure Src where
  op : Int
  val : Int
  hops : Int
deriving DecidableEq
/-- an operation; h is the slice value of its sources -/
structure Opn where
  time : Int
  c0 : Int
  c1 : Int
  unit : Int
  kind : Int
  h : Value
  src : List Src

def Src.cells (s : Src) : List Value := [.int .i64 s.op, .int .i64 s.val, .int .i64 s.hops]
def Src.v (s : Src) : Value := .agg #[.int .i64 s.op, .int .i64 s.val, .int .i64 s.hops]
def Opn.cells (o : Opn) : List Value := [.int .i64 o.time, .int .i64 o.c0, .int .i64 o.c1, .int .i64 o.unit, .int .i64 o.kind, o.h]
def Opn.v (o : Opn) : Value := .agg #[.int .i64 o.time, .int .i64 o.c0, .int .i64 o.c1, .int .i64 o.unit, .int .i64 o.kind, o.h]
def srcCells (l : List Src) : List Value := l.flatMap Src.cells
def opCells (p : List Opn) : List Value := p.flatMap Opn.cells

/-- v reads as the sources l -/
def IsSrcs (w : World) (v : Value) (l : List Src) : Prop := Sl w 3 v l.length (srcCells l)
/-- v reads as the program p -/
def IsProg (w : World) (v : Value) (p : List Opn) : Prop := Sl w 6 v p.length (opCells p) ∧ ∀ o ∈ p, IsSrcs w o.h o.src
/-- v reads as the ints l -/
def I64 (l : List Int) : List Value := l.map (.int .i64 ·)
def IsInts (w : World) (v : Value) (l : List Int) : Prop := Sl w 1 v l.length (I64 l)

theorem IsSrcs.keeps {w w' : World} {v : Value} {l : List Src} (h : IsSrcs w v l) (k : Keeps w w') : IsSrcs w' v l := Sl.keeps h k
theorem IsProg.keeps {w w' : World} {v : Value} {p : List Opn} (h : IsProg w v p) (k : Keeps w w') : IsProg w' v p := ⟨h.1.keeps k, fun o ho => (h.2 o ho).keeps k⟩
theorem IsInts.keeps {w w' : World} {v : Value} {l : List Int} (h : IsInts w v l) (k : Keeps w w') : IsInts w' v l := Sl.keeps h k

theorem flatMap_get {α : Type} {β : Type} (f : α → List β) (k : Nat) (l : List α) (hf : ∀ x ∈ l, (f x).length = k) (i : Nat) (hi : i < l.length) (j : Nat) (hj : j < k) :
    (l.flatMap f)[i * k + j]? = (f l[i])[j]? := by
  induction l generalizing i with
  | nil => simp at hi
  | cons a l ih =>
    have ha := hf a (by simp)
    rw [List.flatMap_cons]
    cases i with
    | zero => simp only [Nat.zero_mul, Nat.zero_add]; rw [List.getElem?_append_left (by omega)]; rfl
    | succ i =>
      rw [List.getElem?_append_right (by rw [ha, Nat.succ_mul]; omega), ha, show (i + 1) * k + j - k = i * k + j by rw [Nat.succ_mul]; omega]
      rw [ih (fun x hx => hf x (by simp [hx])) i (by simpa using hi)]
      rfl
theorem srcCells_get (l : List Src) (i : Nat) (hi : i < l.length) (j : Nat) (hj : j < 3) : (srcCells l)[i * 3 + j]? = (l[i].cells)[j]? := flatMap_get _ 3 l (fun _ _ => rfl) i hi j hj
theorem opCells_get (p : List Opn) (i : Nat) (hi : i < p.length) (j : Nat) (hj : j < 6) : (opCells p)[i * 6 + j]? = (p[i].cells)[j]? := flatMap_get _ 6 p (fun _ _ => rfl) i hi j hj
theorem I64_get (l : List Int) (i : Nat) (hi : i < l.length) : (I64 l)[i]? = some (.int .i64 l[i]) := by simp [I64, hi]

/-- the block and offset of a row that is not empty -/
theorem Sl.at {w : World} {sz n : Nat} {v : Value} {xs : List Value} (h : Sl w sz v n xs) (hn : 0 < n) : ∃ b off cap, v = .slice (some ⟨b, off, none⟩) n cap ∧ n ≤ cap ∧ Cells w b off xs := by
  rcases h.2 with ⟨_, h0⟩ | h | ⟨_, _, _, h0⟩
  · omega
  · exact h
  · omega

/-- low ≤ n ≤ high -/
def bt (lo n hi : Int) : Bool := decide (lo ≤ n) && decide (n ≤ hi)

set_option maxHeartbeats 400000 in
theorem within_any (lo n hi : Int) (w : World) : Calls Try.prog 39 #[.int .i64 lo, .int .i64 n, .int .i64 hi] w fun e w' => e = .returned (.bool (bt lo n hi)) ∧ w' = w := by
  by_cases h : lo ≤ n
  · go_enter Try.func39, Try.ntmps39
    go_wp2
    go_ret
    simp [bt, h]
  · go_enter Try.func39, Try.ntmps39
    go_wp2
    go_ret
    simp [bt]; omega

set_option maxHeartbeats 400000 in
theorem between_any (lo n hi : Int) (w : World) : Calls Try.prog 48 #[.int .i64 lo, .int .i64 n, .int .i64 hi] w fun e w' => e = .returned (.bool (bt lo n hi)) ∧ w' = w := by
  by_cases h : lo ≤ n
  · go_enter Try.func48, Try.ntmps48
    go_wp2
    go_ret
    simp [bt, h]
  · go_enter Try.func48, Try.ntmps48
    go_wp2
    go_ret
    simp [bt]; omega

/-- how many values a kind needs -/
def need (k : Int) : Int := if k = 1 then 1 else if k = 2 ∨ k = 3 ∨ k = 4 ∨ k = 6 ∨ k = 7 then 2 else if k = 5 then 3 else 0
/-- what makes of them -/
def doesV (k : Int) : Value := if k = 1 then .func (.func 68) #[] #[] else if k = 2 then .func (.func 69) #[] #[] else if k = 3 then .func (.func 70) #[] #[] else if k = 4 then .func (.func 71) #[] #[] else if k = 5 then .func (.func 72) #[] #[] else if k = 6 then .func (.func 73) #[] #[] else if k = 7 then .func (.func 74) #[] #[] else .nilFunc

set_option maxHeartbeats 400000 in
theorem Needs_any (k : Int) (w : World) : Calls Try.prog 40 #[.int .i64 k] w fun e w' => e = .returned (.int .i64 (need k)) ∧ w' = w := by
  go_enter Try.func40, Try.ntmps40
  go_wp2
  all_goals
    go_ret
    simp_all [need]
end Go.Proofs.Ytmjdmpapickgkaa

namespace Go.Proofs.Ytmjdmpapickgkaa
open Go.RowKit Go.Kk

set_option maxHeartbeats 400000 in
theorem needs_any (k : Int) (w : World) : Calls Try.prog 56 #[.int .i64 k] w fun e w' => e = .returned (.tuple #[.int .i64 (need k), doesV k]) ∧ w' = w := by
  go_enter Try.func56, Try.ntmps56
  go_wp2
  all_goals
    go_ret2
    simp_all [need, doesV]

/-- is the source valid among n operations -/
def okSrc (n : Int) (s : Src) : Bool := if s.op = -1 then bt 0 s.val 10006 && decide (s.hops = 0) else bt 0 s.op (n - 1) && decide (s.val = 0) && bt 0 s.hops 12

set_option maxHeartbeats 400000 in
theorem source_any (s : Src) (n : Int) (hn : -1000000 ≤ n ∧ n ≤ 1000000) (w : World) : Calls Try.prog 61 #[s.v, .int .i64 n] w fun e w' => e = .returned (.bool (okSrc n s)) ∧ Below w.heap.size w w' := by
  unfold Src.v
  by_cases h0 : s.op = -1
  · have ho : okSrc n s = (bt 0 s.val 10006 && decide (s.hops = 0)) := by unfold okSrc; rw [if_pos h0]
    rw [ho]
    by_cases h1 : bt 0 s.val 10006 = true
    all_goals
      go_enter Try.func61, Try.ntmps61
      go_wp2_with (first | (go_at_call 48; refine (between_any _ _ _ _).mono ?_; rintro e w1 ⟨rfl, rfl⟩))
      go_ret
      exact ⟨by by_cases hh : s.hops = 0 <;> simp [h1, hh], below_alloc _ _⟩
  · have ho : okSrc n s = (bt 0 s.op (n - 1) && decide (s.val = 0) && bt 0 s.hops 12) := by unfold okSrc; rw [if_neg h0]
    rw [ho]
    by_cases h1 : bt 0 s.op (n - 1) = true
    · by_cases h2 : s.val = 0
      all_goals
        go_enter Try.func61, Try.ntmps61
        go_wp2_with (first | (go_at_call 48; refine (between_any _ _ _ _).mono ?_; rintro e w1 ⟨rfl, rfl⟩))
        go_ret
        exact ⟨by simp [h1, h2], below_alloc _ _⟩
    · go_enter Try.func61, Try.ntmps61
      go_wp2_with (first | (go_at_call 48; refine (between_any _ _ _ _).mono ?_; rintro e w1 ⟨rfl, rfl⟩))
      go_ret
      exact ⟨by simp [h1], below_alloc _ _⟩

/-- the closure of operation: not a valid source -/
theorem notSource_any (s : Src) (n : Int) (hn : -1000000 ≤ n ∧ n ≤ 1000000) (b : Nat) (w : World) (hb : w.cell? ⟨b, 0, none⟩ = some (.int .i64 n)) :
    Calls Try.prog 60 #[s.v, .pointer (some ⟨b, 0, none⟩)] w fun e w' => e = .returned (.bool (! okSrc n s)) ∧ Below w.heap.size w w' := by
  have HS := fun w => source_any s n hn w
  unfold Src.v at *
  have hb' := fun o => Keeps.of_below (below_alloc w o) _ _ hb
  go_enter Try.func60, Try.ntmps60
  go_wp2_with (first | (go_at_call 61; refine (HS _).mono ?_; rintro e w1 ⟨rfl, h1⟩))
  go_ret
  exact ⟨rfl, (below_alloc _ _).trans (h1.mono (by simp))⟩
end Go.Proofs.Ytmjdmpapickgkaa

namespace Go.Proofs.Ytmjdmpapickgkaa
open Go.RowKit Go.Kk

theorem src_cells {w : World} {b off : Nat} {l : List Src} (h : Cells w b off (srcCells l)) (i : Nat) (hi : i < l.length) :
    w.cell? ⟨b, off + i * 3, none⟩ = some (.int .i64 l[i].op) ∧ w.cell? ⟨b, off + i * 3 + 1, none⟩ = some (.int .i64 l[i].val) ∧ w.cell? ⟨b, off + i * 3 + 2, none⟩ = some (.int .i64 l[i].hops) :=
  ⟨h (i * 3 + 0) _ (srcCells_get l i hi 0 (by omega)), by have := h (i * 3 + 1) _ (srcCells_get l i hi 1 (by omega)); rwa [← Nat.add_assoc] at this, by have := h (i * 3 + 2) _ (srcCells_get l i hi 2 (by omega)); rwa [← Nat.add_assoc] at this⟩
theorem op_cells {w : World} {b off : Nat} {p : List Opn} (h : Cells w b off (opCells p)) (i : Nat) (hi : i < p.length) :
    w.cell? ⟨b, off + i * 6, none⟩ = some (.int .i64 p[i].time) ∧ w.cell? ⟨b, off + i * 6 + 1, none⟩ = some (.int .i64 p[i].c0) ∧ w.cell? ⟨b, off + i * 6 + 2, none⟩ = some (.int .i64 p[i].c1) ∧
    w.cell? ⟨b, off + i * 6 + 3, none⟩ = some (.int .i64 p[i].unit) ∧ w.cell? ⟨b, off + i * 6 + 4, none⟩ = some (.int .i64 p[i].kind) ∧ w.cell? ⟨b, off + i * 6 + 5, none⟩ = some p[i].h := by
  have h0 := h (i * 6 + 0) _ (opCells_get p i hi 0 (by omega))
  have h1 := h (i * 6 + 1) _ (opCells_get p i hi 1 (by omega))
  have h2 := h (i * 6 + 2) _ (opCells_get p i hi 2 (by omega))
  have h3 := h (i * 6 + 3) _ (opCells_get p i hi 3 (by omega))
  have h4 := h (i * 6 + 4) _ (opCells_get p i hi 4 (by omega))
  have h5 := h (i * 6 + 5) _ (opCells_get p i hi 5 (by omega))
  rw [← Nat.add_assoc] at h0 h1 h2 h3 h4 h5
  exact ⟨h0, h1, h2, h3, h4, h5⟩

theorem any_take_succ {α : Type} (f : α → Bool) (l : List α) (i : Nat) (hi : i < l.length) (h : (l.take i).any f = false) (h2 : f l[i] = false) : (l.take (i + 1)).any f = false := by
  rw [List.take_succ_eq_append_getElem hi, List.any_append, h]; simp [h2]
theorem any_of_at {α : Type} (f : α → Bool) (l : List α) (i : Nat) (hi : i < l.length) (h : f l[i] = true) : l.any f = true := List.any_eq_true.2 ⟨_, List.getElem_mem hi, h⟩

set_option maxHeartbeats 1000000 in
theorem indexSrc_any (l : List Src) (v : Value) (n : Int) (hn : -1000000 ≤ n ∧ n ≤ 1000000) (b : Nat) (w : World) (hl : IsSrcs w v l) (hb : w.cell? ⟨b, 0, none⟩ = some (.int .i64 n)) (hlen : l.length ≤ 1000000) :
    Calls Try.prog 75 #[v, .func (.func 60) #[] #[.pointer (some ⟨b, 0, none⟩)]] w fun e w' => ∃ r, e = .returned (.int .i64 r) ∧ decide (0 ≤ r) = l.any (fun s => ! okSrc n s) ∧ Below w.heap.size w w' := by
  obtain ⟨base, cp, hval⟩ := hl.shape
  subst hval
  go_enter Try.func75, Try.ntmps75
  go_wp2
  go_loopw [8] (fun i wr => ∃ k : Nat, k ≤ l.length ∧ i = .int .i64 k ∧ (l.take k).any (fun s => ! okSrc n s) = false ∧ Below w.heap.size w wr) (fun i _ => l.length - (intOf i).toNat)
  case atStart => exact ⟨0, by omega, rfl, by simp, Below.refl _ _⟩
  case round =>
    obtain ⟨k, hk, rfl, hany, hbel⟩ := hrel
    by_cases hlt : k < l.length
    · obtain ⟨b1, off, cp1, hv, hc, hcl⟩ := Sl.at hl (by omega)
      injection hv with hv1 _ hv3
      subst hv1 hv3
      have hcl' := hcl.keeps (Keeps.of_below hbel)
      obtain ⟨c0, c1, c2⟩ := src_cells hcl' k hlt
      have hbc := Keeps.of_below hbel _ _ hb
      clear hl hcl hcl' hb
      have HS := fun wr h => notSource_any l[k] n hn b wr h
      have hat := any_of_at (fun s => ! okSrc n s) l k hlt
      have hnx := any_take_succ (fun s => ! okSrc n s) l k hlt hany
      unfold Src.v at HS
      generalize l[k] = s at *
      by_cases hok : okSrc n s = true
      · go_wp2_with (first | (go_at_call 60; refine (HS _ hbc).mono ?_; rintro e w1 ⟨rfl, h1⟩))
        go_roundw
        case rel => exact ⟨k + 1, by omega, by go_num, hnx (by simp [hok]), hbel.trans (h1.mono hbel.size)⟩
        case measure => simp [intOf]; omega
      · go_wp2_with (first | (go_at_call 60; refine (HS _ hbc).mono ?_; rintro e w1 ⟨rfl, h1⟩))
        go_ret
        refine ⟨_, rfl, ?_, hbel.trans (h1.mono hbel.size)⟩
        rw [hat (by simp [hok])]; simp
    · obtain rfl : k = l.length := by omega
      go_wp2
      go_ret
      refine ⟨_, rfl, ?_, hbel⟩
      rw [List.take_length] at hany
      rw [hany]; rfl

set_option maxHeartbeats 400000 in
theorem containsSrc_any (l : List Src) (v : Value) (n : Int) (hn : -1000000 ≤ n ∧ n ≤ 1000000) (b : Nat) (w : World) (hl : IsSrcs w v l) (hb : w.cell? ⟨b, 0, none⟩ = some (.int .i64 n)) (hlen : l.length ≤ 1000000) :
    Calls Try.prog 59 #[v, .func (.func 60) #[] #[.pointer (some ⟨b, 0, none⟩)]] w fun e w' => e = .returned (.bool (l.any (fun s => ! okSrc n s))) ∧ Below w.heap.size w w' := by
  have H := Lib.hid (indexSrc_any l v n hn b w hl hb hlen)
  clear hl hb
  go_enter Try.func59, Try.ntmps59
  go_wp2_with (first | (go_at_call 75; refine H.out.mono ?_; rintro e w1 ⟨r, rfl, hr, h1⟩))
  all_goals
    go_ret
    exact ⟨by rw [← hr]; simp, h1⟩

/-- is the operation valid among n operations -/
def okOp (n : Int) (o : Opn) : Bool :=
  ((! decide (need o.kind = 0)) && decide ((o.src.length : Int) = need o.kind)) && (bt (-100000) o.time 100000 && bt 0 o.unit 3) && (bt (-1000) o.c0 1000 && bt (-1000) o.c1 1000) && ! o.src.any (fun s => ! okSrc n s)

set_option maxHeartbeats 2000000 in
theorem operation_any (o : Opn) (n : Int) (hn : -1000000 ≤ n ∧ n ≤ 1000000) (w : World) (hs : IsSrcs w o.h o.src) (hlen : o.src.length ≤ 1000000) :
    Calls Try.prog 46 #[o.v, .int .i64 n] w fun e w' => e = .returned (.bool (okOp n o)) ∧ Below w.heap.size w w' := by
  obtain ⟨t, c0, c1, u, k, h, src⟩ := o
  unfold Opn.v
  simp only at *
  obtain ⟨base, cp, rfl⟩ := hs.shape
  have HC := fun w b hs hb => containsSrc_any src (.slice base src.length cp) n hn b w hs hb hlen
  have Hs := Lib.hid hs
  have HN := fun w => needs_any k w
  have ho : okOp n ⟨t, c0, c1, u, k, .slice base src.length cp, src⟩ = (((! decide (need k = 0)) && decide ((src.length : Int) = need k)) && (bt (-100000) t 100000 && bt 0 u 3) && (bt (-1000) c0 1000 && bt (-1000) c1 1000) && ! src.any (fun s => ! okSrc n s)) := rfl
  rw [ho]
  clear hs ho
  generalize need k = nd at *
  generalize doesV k = dv at *
  by_cases h1 : nd = 0
  · go_enter Try.func46, Try.ntmps46
    go_wp2_with (first | (go_at_call 56; refine (HN _).mono ?_; rintro e w1 ⟨rfl, rfl⟩))
    go_ret
    exact ⟨by simp [h1], below_alloc2 _ _ _⟩
  have b1 : (nd == 0) = false := by simp [h1]
  by_cases h2 : (src.length : Int) = nd
  rotate_left
  · have b2 : ((src.length : Int) != nd) = true := by simp [h2]
    go_enter Try.func46, Try.ntmps46
    go_wp2_with (first | (go_at_call 56; refine (HN _).mono ?_; rintro e w1 ⟨rfl, rfl⟩))
    go_ret
    exact ⟨by simp [h2], below_alloc2 _ _ _⟩
  have b2 : ((src.length : Int) != nd) = false := by simp [h2]
  have HB := fun o o' => Hs.out.keeps (Keeps.of_below (below_alloc2 w o o'))
  by_cases h3 : bt (-100000) t 100000 = true
  rotate_left
  · go_enter Try.func46, Try.ntmps46
    go_wp2_with (first | (go_at_call 56; refine (HN _).mono ?_; rintro e w1 ⟨rfl, rfl⟩) | (go_at_call 48; refine (between_any _ _ _ _).mono ?_; rintro e w1 ⟨rfl, rfl⟩))
    go_ret
    exact ⟨by simp [h3], below_alloc2 _ _ _⟩
  by_cases h4 : bt 0 u 3 = true
  rotate_left
  · go_enter Try.func46, Try.ntmps46
    go_wp2_with (first | (go_at_call 56; refine (HN _).mono ?_; rintro e w1 ⟨rfl, rfl⟩) | (go_at_call 48; refine (between_any _ _ _ _).mono ?_; rintro e w1 ⟨rfl, rfl⟩))
    go_ret
    exact ⟨by simp [h4], below_alloc2 _ _ _⟩
  by_cases h5 : bt (-1000) c0 1000 = true
  rotate_left
  · go_enter Try.func46, Try.ntmps46
    go_wp2_with (first | (go_at_call 56; refine (HN _).mono ?_; rintro e w1 ⟨rfl, rfl⟩) | (go_at_call 48; refine (between_any _ _ _ _).mono ?_; rintro e w1 ⟨rfl, rfl⟩))
    go_ret
    exact ⟨by simp [h5], below_alloc2 _ _ _⟩
  by_cases h6 : bt (-1000) c1 1000 = true
  rotate_left
  · go_enter Try.func46, Try.ntmps46
    go_wp2_with (first | (go_at_call 56; refine (HN _).mono ?_; rintro e w1 ⟨rfl, rfl⟩) | (go_at_call 48; refine (between_any _ _ _ _).mono ?_; rintro e w1 ⟨rfl, rfl⟩))
    go_ret
    exact ⟨by simp [h6], below_alloc2 _ _ _⟩
  go_enter Try.func46, Try.ntmps46
  go_wp2_with (first | (go_at_call 56; refine (HN _).mono ?_; rintro e w1 ⟨rfl, rfl⟩) | (go_at_call 48; refine (between_any _ _ _ _).mono ?_; rintro e w1 ⟨rfl, rfl⟩) | (go_at_call 59; refine (HC _ _ (HB _ _) (newA _ _ _ _ _ _ (by simp) rfl)).mono ?_; rintro e w1 ⟨rfl, hb⟩))
  go_ret
  exact ⟨by simp [h1, h2, h3, h4, h5, h6], (below_alloc2 _ _ _).trans (hb.mono (by simp; omega))⟩

/-- the closure of Valid: not a valid operation -/
theorem notOp_any (o : Opn) (b : Nat) (w : World) (base : Option Addr) (m cp : Nat) (hm : m ≤ 1000000) (hb : w.cell? ⟨b, 0, none⟩ = some (.slice base m cp)) (hs : IsSrcs w o.h o.src) (hlen : o.src.length ≤ 1000000) :
    Calls Try.prog 45 #[o.v, .pointer (some ⟨b, 0, none⟩)] w fun e w' => e = .returned (.bool (! okOp m o)) ∧ Below w.heap.size w w' := by
  have HS := fun w hs => operation_any o m (by omega) w hs hlen
  have hs' := fun o => hs.keeps (Keeps.of_below (below_alloc w o))
  unfold Opn.v at *
  have hb' := fun o => Keeps.of_below (below_alloc w o) _ _ hb
  clear hs
  go_enter Try.func45, Try.ntmps45
  go_wp2_with (first | (go_at_call 46; refine (HS _ (hs' _)).mono ?_; rintro e w1 ⟨rfl, h1⟩))
  go_ret
  exact ⟨rfl, (below_alloc _ _).trans (h1.mono (by simp))⟩
end Go.Proofs.Ytmjdmpapickgkaa

namespace Go.Proofs.Ytmjdmpapickgkaa
open Go.RowKit Go.Kk

/-- no operation's list of sources is long (Wide says so of all inputs) -/
def Narrow (p : List Opn) : Prop := p.length ≤ 1000000 ∧ ∀ o ∈ p, o.src.length ≤ 1000000

set_option maxHeartbeats 1000000 in
theorem indexOp_any (p : List Opn) (v : Value) (b : Nat) (w : World) (base : Option Addr) (m cp : Nat) (hm : m ≤ 1000000) (hl : IsProg w v p) (hb : w.cell? ⟨b, 0, none⟩ = some (.slice base m cp)) (hlen : Narrow p) :
    Calls Try.prog 58 #[v, .func (.func 45) #[] #[.pointer (some ⟨b, 0, none⟩)]] w fun e w' => ∃ r, e = .returned (.int .i64 r) ∧ decide (0 ≤ r) = p.any (fun o => ! okOp m o) ∧ Below w.heap.size w w' := by
  obtain ⟨bs, cq, hval⟩ := hl.1.shape
  subst hval
  go_enter Try.func58, Try.ntmps58
  have hlp := hlen.1
  go_wp2
  go_loopw [8] (fun i wr => ∃ k : Nat, k ≤ p.length ∧ i = .int .i64 k ∧ (p.take k).any (fun o => ! okOp m o) = false ∧ Below w.heap.size w wr) (fun i _ => p.length - (intOf i).toNat)
  case atStart => exact ⟨0, by omega, rfl, by simp, Below.refl _ _⟩
  case round =>
    obtain ⟨k, hk, rfl, hany, hbel⟩ := hrel
    by_cases hlt : k < p.length
    · obtain ⟨b1, off, cp1, hv, hc, hcl⟩ := Sl.at hl.1 (by omega)
      injection hv with hv1 _ hv3
      subst hv1 hv3
      have hcl' := hcl.keeps (Keeps.of_below hbel)
      obtain ⟨c0, c1, c2, c3, c4, c5⟩ := op_cells hcl' k hlt
      have hbc := Keeps.of_below hbel _ _ hb
      have hsr := (hl.2 p[k] (List.getElem_mem _)).keeps (Keeps.of_below hbel)
      have hsl := hlen.2 p[k] (List.getElem_mem _)
      clear hl hcl hcl' hb hlen
      have HS := notOp_any p[k] b wr base m cp hm hbc hsr hsl
      have hat := any_of_at (fun o => ! okOp m o) p k hlt
      have hnx := any_take_succ (fun o => ! okOp m o) p k hlt hany
      have HS := Lib.hid HS
      clear hsr
      unfold Opn.v at HS
      generalize p[k] = o at *
      obtain ⟨bh, ch, hoh⟩ : ∃ x : Value, ∃ _ : True, o.h = x := ⟨_, trivial, rfl⟩
      rw [hoh] at c5 HS
      by_cases hok : okOp m o = true
      · go_wp2_with (first | (go_at_call 45; refine HS.out.mono ?_; rintro e w1 ⟨rfl, h1⟩))
        go_roundw
        case rel => exact ⟨k + 1, by omega, by go_num, hnx (by simp [hok]), hbel.trans (h1.mono hbel.size)⟩
        case measure => simp [intOf]; omega
      · go_wp2_with (first | (go_at_call 45; refine HS.out.mono ?_; rintro e w1 ⟨rfl, h1⟩))
        go_ret
        refine ⟨_, rfl, ?_, hbel.trans (h1.mono hbel.size)⟩
        rw [hat (by simp [hok])]; simp
    · obtain rfl : k = p.length := by omega
      go_wp2
      go_ret
      refine ⟨_, rfl, ?_, hbel⟩
      rw [List.take_length] at hany
      rw [hany]; rfl

set_option maxHeartbeats 400000 in
theorem containsOp_any (p : List Opn) (v : Value) (b : Nat) (w : World) (base : Option Addr) (m cp : Nat) (hm : m ≤ 1000000) (hl : IsProg w v p) (hb : w.cell? ⟨b, 0, none⟩ = some (.slice base m cp)) (hlen : Narrow p) :
    Calls Try.prog 44 #[v, .func (.func 45) #[] #[.pointer (some ⟨b, 0, none⟩)]] w fun e w' => e = .returned (.bool (p.any (fun o => ! okOp m o))) ∧ Below w.heap.size w w' := by
  have H := Lib.hid (indexOp_any p v b w base m cp hm hl hb hlen)
  clear hl hb
  go_enter Try.func44, Try.ntmps44
  go_wp2_with (first | (go_at_call 58; refine H.out.mono ?_; rintro e w1 ⟨r, rfl, hr, h1⟩))
  all_goals
    go_ret
    exact ⟨by rw [← hr]; simp, h1⟩

/-- is the program valid -/
def okProg (p : List Opn) : Bool := decide (p.length ≤ 4000) && ! p.any (fun o => ! okOp p.length o)

set_option maxHeartbeats 400000 in
theorem valid_any (p : List Opn) (v : Value) (w : World) (hl : IsProg w v p) (hlen : Narrow p) :
    Calls Try.prog 22 #[v] w fun e w' => e = .returned (.bool (okProg p)) ∧ Below w.heap.size w w' := by
  obtain ⟨bs, cq, hval⟩ := hl.1.shape
  subst hval
  have hlp := hlen.1
  have HC := Lib.hid (fun w1 b hl hb => containsOp_any p (.slice bs p.length cq) b w1 bs p.length cq hlp hl hb hlen)
  have HL := Lib.hid hl
  clear hl
  by_cases h : p.length ≤ 4000
  · go_enter Try.func22, Try.ntmps22
    go_wp2_with (first | (go_at_call 44; refine (HC.out _ _ (HL.out.keeps (Keeps.of_below (below_alloc _ _))) (newA _ _ _ _ _ _ rfl rfl)).mono ?_; rintro e w1 ⟨rfl, hb⟩))
    go_ret
    exact ⟨by simp [okProg, h], (below_alloc _ _).trans (hb.mono (by simp))⟩
  · go_enter Try.func22, Try.ntmps22
    go_wp2
    go_ret
    exact ⟨by simp [okProg, h], below_alloc _ _⟩
end Go.Proofs.Ytmjdmpapickgkaa
