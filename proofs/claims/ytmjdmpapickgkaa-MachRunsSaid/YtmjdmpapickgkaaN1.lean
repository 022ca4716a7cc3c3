/- Plain facts of a valid program. No walk. -/
import Derived.Test.YtmjdmpapickgkaaF
import Derived.Test.YtmjdmpapickgkaaM1
namespace Go.Proofs.Ytmjdmpapickgkaa
open Go.RowKit Go.Kk

structure OpOk (n : Nat) (o : Opn) : Prop where
  t : -100000 ≤ o.time ∧ o.time ≤ 100000
  x : -1000 ≤ o.c0 ∧ o.c0 ≤ 1000
  y : -1000 ≤ o.c1 ∧ o.c1 ≤ 1000
  u : 0 ≤ o.unit ∧ o.unit ≤ 3
  k : 1 ≤ o.kind ∧ o.kind ≤ 7
  len : (o.src.length : Int) = need o.kind
  src : ∀ s ∈ o.src, (s.op = -1 ∧ 0 ≤ s.val ∧ s.val ≤ 10006 ∧ s.hops = 0) ∨ (0 ≤ s.op ∧ s.op < n ∧ s.val = 0 ∧ 0 ≤ s.hops ∧ s.hops ≤ 12)

theorem bt_iff {a b c : Int} : bt a b c = true ↔ a ≤ b ∧ b ≤ c := by simp [bt]
theorem need_pos {k : Int} (h : ¬ need k = 0) : 1 ≤ k ∧ k ≤ 7 := by
  unfold need at h
  split at h
  · omega
  · split at h
    · omega
    · split at h
      · omega
      · exact absurd rfl h

theorem OpOk.of {n : Nat} {o : Opn} (h : okOp n o = true) : OpOk n o := by
  unfold okOp at h
  simp only [Bool.and_eq_true, Bool.not_eq_true', decide_eq_true_eq, decide_eq_false_iff_not, bt_iff, List.any_eq_false] at h
  obtain ⟨⟨⟨⟨h1, h2⟩, h3, h4⟩, h5, h6⟩, h7⟩ := h
  refine ⟨h3, h5, h6, h4, need_pos h1, h2, fun s hs => ?_⟩
  have := h7 s hs
  simp only [Bool.not_eq_false] at this
  unfold okSrc at this
  split at this
  · rename_i e
    simp only [Bool.and_eq_true, decide_eq_true_eq, bt_iff] at this
    exact .inl ⟨e, this.1.1, this.1.2, this.2⟩
  · simp only [Bool.and_eq_true, decide_eq_true_eq, bt_iff] at this
    exact .inr ⟨this.1.1.1, by omega, this.1.2, this.2.1, this.2.2⟩

theorem okProg_op {p : List Opn} (h : okProg p = true) (i : Nat) (hi : i < p.length) : OpOk p.length p[i] := by
  unfold okProg at h
  simp only [Bool.and_eq_true, Bool.not_eq_true', List.any_eq_false, Bool.not_eq_false] at h
  exact OpOk.of (h.2 _ (List.getElem_mem hi))
theorem okProg_len {p : List Opn} (h : okProg p = true) : p.length ≤ 4000 := by
  unfold okProg at h
  simp only [Bool.and_eq_true, decide_eq_true_eq] at h
  exact h.1
theorem need_le (k : Int) : 0 ≤ need k ∧ need k ≤ 3 := by unfold need; split <;> (try split) <;> (try split) <;> omega
theorem OpOk.len3 {n : Nat} {o : Opn} (h : OpOk n o) : o.src.length ≤ 3 := by have := h.len; have := need_le o.kind; omega

theorem sl_new1 (W : World) (b : Nat) (hb : b = W.heap.size) (x : Value) (e : TypeId) : Sl (W.alloc (.cells #[x] e)) 1 (.slice (some ⟨b, 0, none⟩) 1 1) 1 [x] := by
  subst hb; exact Sl.new W [x] e 1 1 rfl
theorem own_below {w w1 : World} {B : Nat} {e : TypeId} {sz : Nat} {v : Value} {n : Nat} {xs : List Value} (h : w.ownsRow B e sz v n xs) (hb : Below w.heap.size w w1) : w1.ownsRow B e sz v n xs :=
  h.kept (row := none) ⟨hb.os, hb.tape, hb.output, hb.size, fun k hk _ => hb.block k hk⟩ (by cases v.ownBlock <;> simp)
theorem own_drewN {w : World} {B : Nat} {e : TypeId} {sz : Nat} {v : Value} {n : Nat} {xs : List Value} (h : w.ownsRow B e sz v n xs) (q : Nat) : (w.drewN q).ownsRow B e sz v n xs := own_below h ⟨rfl, rfl, rfl, Nat.le_refl _, fun _ _ => rfl⟩
/-- 'out = append(out, y)', y in a new box -/
theorem wpList_push {P : Program} {W : World} {ops : Array Oper} {rest : List Oper} {o : Oper} {a : Act} {Q : Exit → Act → World → Prop} {y : Value} {e : TypeId} (hgd : o.guard = none) (s x : Operand) (t : TypeId) (ho : o.op = .call { callee := .builtin .append, args := #[s, x], argTypes := #[t, t] })
    {bytes : Nat} {z : Value} (T : SlT P t e 1 bytes z) {B : Nat} (v : Value) {n : Nat} {xs : List Value} (hs : a.eval s = v) (hown : W.ownsRow B e 1 v n xs) {b : Nat} (hx : a.eval x = .slice (some ⟨b, 0, none⟩) 1 1) (hb : b = W.heap.size) (hy : y.oneCell' = true)
    (hn : n + 1 ≤ 1000000) (hby : bytes ≤ 1000000) {A : World} {B0 : Nat} (hbel : Below B0 A W) (hB0 : B0 ≤ B) (hB : B ≤ W.heap.size) (ys : List Value) (hys : xs ++ [y] = ys)
    (h : ∀ v' w', w'.ownsRow B e 1 v' (n + 1) ys → Below B0 A w' → wpList P ops Q rest (a.put o.dst v') w') : wpList P ops Q (o :: rest) a (W.alloc (.cells #[y] e)) := by
  have h1 : (n + 1) * bytes ≤ 1000000 * 1000000 := Nat.mul_le_mul hn hby
  refine wpList_append_at hgd s x t ho T v hs (hown.alloc _) hx (sl_new1 W b hb y e) (by simpa using hy) (by unfold maxLen; omega) (by omega) (by simp; omega) (n + 1) ys rfl hys fun v' w' ho' hg _ => h v' w' ho' ?_
  exact (hbel.alloc (by omega) _).grown hg (by simp; omega) fun j hj => by have := (hown.lt j hj).1; omega
/-! places, and what meets -/
instance : Inhabited Opn := ⟨⟨0, 0, 0, 0, 0, .nilFunc, []⟩⟩
/-- operation i -/
def opn (p : List Opn) (i : Nat) : Opn := p[i]!
theorem opn_eq {p : List Opn} {i : Nat} (h : i < p.length) : opn p i = p[i] := by unfold opn; rw [getElem!_pos _ i h]
def Opn.spot (o : Opn) : Int × Int × Int × Int := (o.time, o.c0, o.c1, o.unit)
/-- the operations before k at the place and time of o -/
def grp (p : List Opn) (k : Nat) (o : Opn) : List Nat := (List.range k).filter fun j => decide ((opn p j).spot = o.spot)
/-- the first that meets another, and the next one that it meets -/
def meets (p : List Opn) : Option Nat := (List.range p.length).find? fun i => decide (1 < (grp p p.length (opn p i)).length)
def meetV (p : List Opn) : Value := match meets p with
  | some i => .tuple #[.int .i64 i, .int .i64 ((grp p p.length (opn p i))[1]! : Nat), .bool true]
  | none => .tuple #[.int .i64 0, .int .i64 0, .bool false]

def keyM (o : Opn) : Value := .agg #[.int .i64 o.time, .int .i64 o.c0, .int .i64 o.c1, .int .i64 o.unit]
def keyR (o : Opn) : Value := .agg #[.int .i64 o.time, .int .i64 o.unit, .int .i64 o.c0, .int .i64 o.c1]
theorem keyM_iff (a b : Opn) : keyM a = keyM b ↔ a.spot = b.spot := by simp [keyM, Opn.spot]
theorem keyR_iff (a b : Opn) : keyR a = keyR b ↔ a.spot = b.spot := by simp only [keyR, Opn.spot, Value.agg.injEq, Array.mk.injEq, List.cons.injEq, Value.int.injEq, Prod.mk.injEq, true_and, and_true]; constructor <;> (rintro ⟨h1, h2, h3, h4⟩; simp [*])

open Classical in
/-- what the map holds behind k rounds -/
noncomputable def grpL (kf : Opn → Value) (p : List Opn) (k : Nat) (q : Value) : List Int := ((List.range k).filter fun j => decide (kf (opn p j) = q)).map fun (x : Nat) => (x : Int)
theorem grpL_zero (kf : Opn → Value) (p : List Opn) (q : Value) : grpL kf p 0 q = [] := by simp [grpL]
theorem grpL_same (kf : Opn → Value) (p : List Opn) (k : Nat) (q : Value) (h : kf (opn p k) = q) : grpL kf p (k + 1) q = grpL kf p k q ++ [(k : Int)] := by
  unfold grpL
  rw [List.range_succ, List.filter_append, List.map_append]
  congr 1
  simp [h]
theorem grpL_other (kf : Opn → Value) (p : List Opn) (k : Nat) (q : Value) (h : q ≠ kf (opn p k)) : grpL kf p (k + 1) q = grpL kf p k q := by
  unfold grpL
  rw [List.range_succ, List.filter_append, List.map_append]
  have h' : ¬ kf (opn p k) = q := fun e => h e.symm
  simp [h']
theorem grpL_len (kf : Opn → Value) (p : List Opn) (k : Nat) (q : Value) : (grpL kf p k q).length ≤ k := by
  unfold grpL
  rw [List.length_map]
  exact Nat.le_trans (List.length_filter_le _ _) (by simp)
theorem grpL_key (kf : Opn → Value) (hk : ∀ a b, kf a = kf b ↔ a.spot = b.spot) (p : List Opn) (k : Nat) (o : Opn) : grpL kf p k (kf o) = (grp p k o).map fun (x : Nat) => (x : Int) := by
  unfold grpL grp
  congr 1
  apply List.filter_congr
  intro j _
  exact decide_eq_decide.2 (hk _ _)

theorem meets_none {p : List Opn} (h : ∀ i, i < p.length → (grp p p.length (opn p i)).length ≤ 1) : meets p = none := by
  unfold meets
  rw [List.find?_eq_none]
  intro i hi
  have := h i (by simpa using hi)
  simp; omega
theorem meets_some {p : List Opn} {i : Nat} (hi : i < p.length) (h : 1 < (grp p p.length (opn p i)).length) (hb : ∀ j, j < i → (grp p p.length (opn p j)).length ≤ 1) : meets p = some i := by
  unfold meets
  rw [List.find?_eq_some_iff_getElem]
  refine ⟨by simpa using h, i, by simpa using hi, by simp, fun j hj => ?_⟩
  have := hb j hj
  simp; omega
/-- the head of the first group that is not single is its own first -/
theorem meets_head {p : List Opn} {i : Nat} (hi : i < p.length) (h : 1 < (grp p p.length (opn p i)).length) (hb : ∀ j, j < i → (grp p p.length (opn p j)).length ≤ 1) : (grp p p.length (opn p i))[0]! = i := by
  have hne : 0 < (grp p p.length (opn p i)).length := by omega
  have hmem : i ∈ grp p p.length (opn p i) := by simp [grp, hi]
  have h0 : (grp p p.length (opn p i))[0] ∈ grp p p.length (opn p i) := List.getElem_mem hne
  have hs : (grp p p.length (opn p i)).Pairwise (· < ·) := List.Pairwise.filter _ List.pairwise_lt_range
  have h0' : (opn p (grp p p.length (opn p i))[0]).spot = (opn p i).spot := by
    have := (List.mem_filter.1 h0).2
    simpa using this
  have hg : grp p p.length (opn p (grp p p.length (opn p i))[0]) = grp p p.length (opn p i) := by
    show (List.range p.length).filter (fun j => decide ((opn p j).spot = (opn p (grp p p.length (opn p i))[0]).spot)) = _
    rw [h0']
    rfl
  have hle : ¬ (grp p p.length (opn p i))[0] < i := fun hlt => by
    have := hb _ hlt
    rw [hg] at this
    omega
  have hge : (grp p p.length (opn p i))[0] ≤ i := by
    obtain ⟨n, hn, e⟩ := List.getElem_of_mem hmem
    by_cases n0 : n = 0
    · subst n0; omega
    · have := List.pairwise_iff_getElem.1 hs 0 n hne hn (by omega)
      omega
  rw [getElem!_pos _ 0 hne]
  omega
end Go.Proofs.Ytmjdmpapickgkaa
