import Derived.Test.YtmjdmpapickgkaaZ6
import Derived.Test.YtmjdmpapickgkaaZ5
import Derived.Deep.QuietTactic
import Derived.BigQuiet
import Derived.Deep.DeepFit
/- Plain facts: when values come. No walk. -/
namespace Go.Proofs.Ytmjdmpapickgkaa
open Go.RowKit Go.Kk

/-- when the value of a source comes -/
def comes (T : Nat → Int) (s : Src) : Int := T s.op.toNat + max 1 s.hops
def arrStep (T : Nat → Int) (acc : Option Int) (s : Src) : Option Int := if s.op < 0 then acc else some (match acc with | none => comes T s | some u => if u < comes T s then comes T s else u)
/-- when the last value comes that is taken from operations; none: none is -/
def arr (T : Nat → Int) (l : List Src) : Option Int := l.foldl (arrStep T) none

theorem arr_take (T : Nat → Int) (l : List Src) (k : Nat) (hk : k < l.length) : arr T (l.take (k + 1)) = arrStep T (arr T (l.take k)) l[k] := by
  unfold arr
  rw [List.take_succ_eq_append_getElem hk, List.foldl_append]; rfl

theorem arrStep_neg {T : Nat → Int} {acc : Option Int} {s : Src} (h : s.op < 0) : arrStep T acc s = acc := if_pos h
theorem arrStep_none {T : Nat → Int} {s : Src} (h : ¬ s.op < 0) : arrStep T none s = some (comes T s) := if_neg h
theorem arrStep_more {T : Nat → Int} {s : Src} {u : Int} (h : ¬ s.op < 0) (hu : u < comes T s) : arrStep T (some u) s = some (comes T s) := by unfold arrStep; rw [if_neg h]; simp [hu]
theorem arrStep_less {T : Nat → Int} {s : Src} {u : Int} (h : ¬ s.op < 0) (hu : ¬ u < comes T s) : arrStep T (some u) s = some u := by unfold arrStep; rw [if_neg h]; simp [hu]

theorem comes_bd {T : Nat → Int} {s : Src} {n : Nat} {B : Int} (hT : ∀ k, k < n → -B ≤ T k ∧ T k ≤ B) (h0 : 0 ≤ s.op) (h1 : s.op < n) (hh : 0 ≤ s.hops ∧ s.hops ≤ 12) : -B ≤ comes T s ∧ comes T s ≤ B + 12 := by
  have := hT s.op.toNat (by omega)
  unfold comes; omega

/-- bounds of what comes -/
theorem arr_bd {T : Nat → Int} {n : Nat} {B : Int} (hT : ∀ k, k < n → -B ≤ T k ∧ T k ≤ B) (l : List Src) (hl : ∀ s ∈ l, (s.op = -1 ∧ 0 ≤ s.val ∧ s.val ≤ 10006 ∧ s.hops = 0) ∨ (0 ≤ s.op ∧ s.op < n ∧ s.val = 0 ∧ 0 ≤ s.hops ∧ s.hops ≤ 12)) :
    ∀ u, arr T l = some u → -B ≤ u ∧ u ≤ B + 12 := by
  suffices h : ∀ (l : List Src) (acc : Option Int), (∀ s ∈ l, (s.op = -1 ∧ 0 ≤ s.val ∧ s.val ≤ 10006 ∧ s.hops = 0) ∨ (0 ≤ s.op ∧ s.op < n ∧ s.val = 0 ∧ 0 ≤ s.hops ∧ s.hops ≤ 12)) → (∀ u, acc = some u → -B ≤ u ∧ u ≤ B + 12) → ∀ u, l.foldl (arrStep T) acc = some u → -B ≤ u ∧ u ≤ B + 12 from h l none hl (fun u hu => by cases hu)
  intro l
  induction l with
  | nil => intro acc _ ha u hu; exact ha u hu
  | cons s l ih =>
    intro acc hl ha u hu
    refine ih _ (fun x hx => hl x (by simp [hx])) (fun y hy => ?_) u hu
    unfold arrStep at hy
    split at hy
    · exact ha y hy
    · rename_i h0
      rcases hl s (by simp) with ⟨h1, _⟩ | ⟨h1, h2, _, h3⟩
      · omega
      · have hc := comes_bd hT h1 h2 h3
        cases acc with
        | none => simp at hy; omega
        | some v =>
          have := ha v rfl
          simp only [Option.some.injEq] at hy
          split at hy <;> omega

/-- by how many ticks an operation could be earlier: -1: it takes nothing; less: it is not ready -/
def slackI (T : Nat → Int) (o : Opn) : Int := match arr T o.src with
  | none => -1
  | some u => if o.time < u then o.time - u - 1 else o.time - u
/-- is it not ready -/
def waitsB (T : Nat → Int) (o : Opn) : Bool := match arr T o.src with
  | none => false
  | some u => decide (o.time < u)
theorem slackI_wait (T : Nat → Int) (o : Opn) : decide (slackI T o < -1) = waitsB T o := by
  unfold slackI waitsB
  cases arr T o.src with
  | none => simp
  | some u => simp only; split <;> simp_all <;> omega
def slackL (p : List Opn) : List Int := p.map (slackI (timeOf p))
def waitL (p : List Opn) : List Nat := (List.range p.length).filter fun i => waitsB (timeOf p) (opn p i)
def ints (l : List Nat) : List Int := l.map fun (x : Nat) => (x : Int)

theorem timeOf_bd {p : List Opn} (h : okProg p = true) (k : Nat) (hk : k < p.length) : -100000 ≤ timeOf p k ∧ timeOf p k ≤ 100000 := by
  unfold timeOf
  rw [dif_pos hk]
  exact (okProg_op h k hk).t
theorem slackI_bd {p : List Opn} (h : okProg p = true) (k : Nat) (hk : k < p.length) : -1000000 ≤ slackI (timeOf p) p[k] ∧ slackI (timeOf p) p[k] ≤ 1000000 := by
  have ho := okProg_op h k hk
  have hb := arr_bd (B := 100000) (timeOf_bd h) p[k].src ho.src
  have ht := ho.t
  unfold slackI
  cases ha : arr (timeOf p) p[k].src with
  | none => simp only; omega
  | some u => have := hb u ha; simp only; split <;> omega
theorem waitL_eq (p : List Opn) : waitL p = (List.range p.length).filter fun i => decide (slackI (timeOf p) (opn p i) < -1) := by
  unfold waitL
  apply List.filter_congr
  intro i _
  exact (slackI_wait _ _).symm
theorem slackL_get (p : List Opn) (i : Nat) (hi : i < p.length) : (slackL p)[i]? = some (slackI (timeOf p) (opn p i)) := by
  rw [opn_eq hi]; simp [slackL, hi]
/-- a list that grows by what passes a test -/
theorem filter_range_succ (f : Nat → Bool) (k : Nat) : (List.range (k + 1)).filter f = (List.range k).filter f ++ (if f k then [k] else []) := by
  rw [List.range_succ, List.filter_append]
  congr 1
  by_cases h : f k = true <;> simp [h]
end Go.Proofs.Ytmjdmpapickgkaa

/- Plain facts: the values of a program. No walk. -/
namespace Go.Proofs.Ytmjdmpapickgkaa
open Go.RowKit Go.Kk Go.Sort

def opVal (k a b c : Int) : Int := if k = 1 then a else if k = 2 then a + b else if k = 3 then a - b + 10007 else if k = 4 then a * b else if k = 5 then a + b * c else if k = 6 then max a b else if k = 7 then min a b else 0
def appl (k a b c : Int) : Int := opVal k a b c % 10007
def srcV (V : Nat → Int) (s : Src) : Int := if s.op < 0 then s.val else V s.op.toNat
/-- the j-th value that sources give -/
def srcN (V : Nat → Int) (l : List Src) (j : Nat) : Int := match l[j]? with | some s => srcV V s | none => 0
def IsValAt (p : List Opn) (V : Nat → Int) (i : Nat) : Prop := V i = appl (opn p i).kind (srcN V (opn p i).src 0) (srcN V (opn p i).src 1) (srcN V (opn p i).src 2)
def Rng (x : Int) : Prop := 0 ≤ x ∧ x ≤ 10006
/-- each operation takes what comes earlier -/
def Ready (p : List Opn) : Prop := ∀ i, i < p.length → ∀ s ∈ (opn p i).src, 0 ≤ s.op → s.op.toNat < p.length ∧ timeOf p s.op.toNat < timeOf p i

theorem appl_rng (k a b c : Int) : Rng (appl k a b c) := by unfold appl Rng; omega
theorem timeOf_opn {p : List Opn} {i : Nat} (h : i < p.length) : timeOf p i = (opn p i).time := by unfold timeOf; rw [dif_pos h, opn_eq h]

theorem srcN_congr {V V' : Nat → Int} {l : List Src} (h : ∀ s ∈ l, 0 ≤ s.op → V' s.op.toNat = V s.op.toNat) (j : Nat) : srcN V' l j = srcN V l j := by
  unfold srcN
  cases hl : l[j]? with
  | none => rfl
  | some s =>
    simp only [srcV]
    split
    · rfl
    · exact h s (List.mem_of_getElem? hl) (by omega)

/-- a source's value is in range -/
theorem srcN_rng {V : Nat → Int} {n : Nat} {l : List Src} (hV : ∀ i, i < n → Rng (V i)) (hl : ∀ s ∈ l, (s.op = -1 ∧ 0 ≤ s.val ∧ s.val ≤ 10006 ∧ s.hops = 0) ∨ (0 ≤ s.op ∧ s.op < n ∧ s.val = 0 ∧ 0 ≤ s.hops ∧ s.hops ≤ 12)) (j : Nat) : Rng (srcN V l j) := by
  unfold srcN
  cases hj : l[j]? with
  | none => exact ⟨by simp, by simp⟩
  | some s =>
    have := hl s (List.mem_of_getElem? hj)
    simp only [srcV]
    split
    · exact ⟨by omega, by omega⟩
    · exact hV _ (by omega)

theorem arr_none {T : Nat → Int} {l : List Src} : ∀ {acc : Option Int}, l.foldl (arrStep T) acc = none → ∀ s ∈ l, s.op < 0 := by
  suffices h : ∀ (l : List Src) (acc : Option Int), l.foldl (arrStep T) acc = none → acc = none ∧ ∀ s ∈ l, s.op < 0 from fun _ h2 => (h l _ h2).2
  intro l
  induction l with
  | nil => intro acc h; exact ⟨h, by simp⟩
  | cons s l ih =>
    intro acc h
    obtain ⟨h1, h2⟩ := ih _ h
    unfold arrStep at h1
    split at h1
    · rename_i hs
      exact ⟨h1, fun x hx => by rcases List.mem_cons.1 hx with rfl | hx; · exact hs
                                · exact h2 x hx⟩
    · cases h1
theorem arr_ge {T : Nat → Int} : ∀ (l : List Src) (acc : Option Int) (u : Int), l.foldl (arrStep T) acc = some u → (∀ v, acc = some v → v ≤ u) ∧ ∀ s ∈ l, 0 ≤ s.op → comes T s ≤ u := by
  intro l
  induction l with
  | nil => intro acc u h; exact ⟨fun v hv => by rw [show acc = some u from h] at hv; cases hv; omega, by simp⟩
  | cons s l ih =>
    intro acc u h
    obtain ⟨h1, h2⟩ := ih _ u h
    unfold arrStep at h1
    split at h1
    · rename_i hs
      exact ⟨h1, fun x hx h0 => by
        rcases List.mem_cons.1 hx with rfl | hx
        · omega
        · exact h2 x hx h0⟩
    · have h3 := h1 _ rfl
      refine ⟨fun v hv => ?_, fun x hx h0 => ?_⟩
      · subst hv; simp only at h3; split at h3 <;> omega
      · rcases List.mem_cons.1 hx with rfl | hx
        · cases acc with
          | none => exact h3
          | some v => simp only at h3; split at h3 <;> omega
        · exact h2 x hx h0

theorem ready_of {p : List Opn} (hok : okProg p = true) (h : waitL p = []) : Ready p := by
  intro i hi s hs h0
  have hoo := okProg_op hok i hi
  rw [← opn_eq hi] at hoo
  have hsb := hoo.src s hs
  have hop : s.op < p.length := by omega
  refine ⟨by omega, ?_⟩
  have hw : waitsB (timeOf p) (opn p i) = false := by
    unfold waitL at h
    rw [List.filter_eq_nil_iff] at h
    have := h i (by simpa using hi)
    simpa using this
  unfold waitsB at hw
  cases ha : arr (timeOf p) (opn p i).src with
  | none => have := arr_none (acc := none) ha s hs; omega
  | some u =>
    rw [ha] at hw
    have h1 := (arr_ge _ _ u ha).2 s hs h0
    simp only [decide_eq_false_iff_not] at hw
    have h2 : s.hops ≤ max 1 s.hops ∧ 1 ≤ max 1 s.hops := by omega
    unfold comes at h1
    rw [timeOf_opn hi]
    omega

/-- two valuations of a ready program are the same -/
theorem val_unique {p : List Opn} (hok : okProg p = true) (hr : Ready p) {V V' : Nat → Int} (h : ∀ i, i < p.length → IsValAt p V i) (h' : ∀ i, i < p.length → IsValAt p V' i) : ∀ i, i < p.length → V i = V' i := by
  suffices H : ∀ (m : Nat) (i : Nat), i < p.length → (timeOf p i + 100000).toNat < m → V i = V' i from fun i hi => H _ i hi (Nat.lt_succ_self _)
  intro m
  induction m with
  | zero => intro i _ h; omega
  | succ m ih =>
    intro i hi hm
    have e1 := h i hi
    have e2 := h' i hi
    unfold IsValAt at e1 e2
    have hc := fun j => srcN_congr (V := V') (V' := V) (l := (opn p i).src) (fun s hs h0 => by
      obtain ⟨h1, h2⟩ := hr i hi s hs h0
      have := timeOf_bd hok i hi
      have := timeOf_bd hok _ h1
      exact ih _ h1 (by omega)) j
    rw [e1, e2, hc, hc, hc]

/-! in order of time -/
def upd (V : Nat → Int) (i : Nat) (x : Int) : Nat → Int := fun j => if j = i then x else V j
theorem upd_same (V : Nat → Int) (i : Nat) (x : Int) : upd V i x i = x := by simp [upd]
theorem upd_other {V : Nat → Int} {i j : Nat} {x : Int} (h : j ≠ i) : upd V i x j = V j := by simp [upd, h]

theorem Order.size {p : List Opn} {d : Array Nat} (h : Order p d) : d.size = p.length := by have := h.perm.length_eq; simpa using this
theorem Order.lt {p : List Opn} {d : Array Nat} (h : Order p d) (j : Nat) (hj : j < p.length) : d[j]! < p.length := by
  have hs := h.size
  have : d[j]! ∈ d.toList := by rw [getElem!_pos d j (by omega)]; simp
  have := h.perm.mem_iff.1 this
  simpa using this
theorem Order.inj {p : List Opn} {d : Array Nat} (h : Order p d) {i j : Nat} (hi : i < p.length) (hj : j < p.length) (e : d[i]! = d[j]!) : i = j := by
  have hs := h.size
  have hn : d.toList.Nodup := h.perm.nodup_iff.2 List.nodup_range
  rw [getElem!_pos d i (by omega), getElem!_pos d j (by omega)] at e
  rcases Nat.lt_trichotomy i j with hlt | he | hlt
  · have := List.pairwise_iff_getElem.1 hn i j (by simp; omega) (by simp; omega) hlt
    simp at this; exact absurd e this
  · exact he
  · have := List.pairwise_iff_getElem.1 hn j i (by simp; omega) (by simp; omega) hlt
    simp at this; exact absurd e.symm this
theorem Order.surj {p : List Opn} {d : Array Nat} (h : Order p d) {i : Nat} (hi : i < p.length) : ∃ j, j < p.length ∧ d[j]! = i := by
  have hs := h.size
  have : i ∈ d.toList := h.perm.mem_iff.2 (by simpa using hi)
  obtain ⟨j, hj, e⟩ := List.getElem_of_mem this
  have hj' : j < d.size := by simpa using hj
  exact ⟨j, by omega, by rw [getElem!_pos d j hj']; simpa using e⟩
/-- what is earlier in time stands earlier -/
theorem Order.early {p : List Opn} {d : Array Nat} (h : Order p d) {k i : Nat} (hk : k < p.length) (hi : i < p.length) (ht : timeOf p i < timeOf p d[k]!) : ∃ j, j < k ∧ d[j]! = i := by
  obtain ⟨j, hj, e⟩ := h.surj hi
  refine ⟨j, ?_, e⟩
  rcases Nat.lt_or_ge j k with h1 | h1
  · exact h1
  · have := h.srt k j (Nat.zero_le _) h1 hj
    rw [e] at this
    omega

def Done (p : List Opn) (d : Array Nat) (V : Nat → Int) (k : Nat) : Prop := ∀ j, j < k → IsValAt p V d[j]!
theorem Done.step {p : List Opn} {d : Array Nat} {V : Nat → Int} {k : Nat} (h : Done p d V k) (ho : Order p d) (hr : Ready p) (hk : k < p.length) :
    Done p d (upd V d[k]! (appl (opn p d[k]!).kind (srcN V (opn p d[k]!).src 0) (srcN V (opn p d[k]!).src 1) (srcN V (opn p d[k]!).src 2))) (k + 1) := by
  generalize hx : appl (opn p d[k]!).kind (srcN V (opn p d[k]!).src 0) (srcN V (opn p d[k]!).src 1) (srcN V (opn p d[k]!).src 2) = x
  have key : ∀ j, j ≤ k → ∀ m, srcN (upd V d[k]! x) (opn p d[j]!).src m = srcN V (opn p d[j]!).src m := by
    intro j hj m
    refine srcN_congr (fun s hs h0 => ?_) m
    obtain ⟨h1, h2⟩ := hr _ (ho.lt j (by omega)) s hs h0
    obtain ⟨i, hi, e⟩ := ho.early (by omega) h1 h2
    refine upd_other fun e2 => ?_
    have := ho.inj (i := i) (j := k) (by omega) hk (e.trans e2)
    omega
  intro j hj
  unfold IsValAt
  rw [key j (by omega), key j (by omega), key j (by omega)]
  by_cases e : j = k
  · subst e; rw [upd_same, hx]
  · rw [upd_other fun e2 => e (ho.inj (by omega) hk e2)]
    exact h j (by omega)
theorem Done.all {p : List Opn} {d : Array Nat} {V : Nat → Int} (h : Done p d V p.length) (ho : Order p d) : ∀ i, i < p.length → IsValAt p V i := by
  intro i hi
  obtain ⟨j, hj, rfl⟩ := ho.surj hi
  exact h j hj
end Go.Proofs.Ytmjdmpapickgkaa

/- Plain facts: values by need. No walk. -/
namespace Go.Proofs.Ytmjdmpapickgkaa
open Go.RowKit Go.Kk

def upd' (V : Nat → Int) (i : Nat) (x : Int) : Nat → Int := upd V i x
/-- what is formed is right, and so are its sources -/
def Cl (p : List Opn) (M : Nat → Int) : Prop := ∀ j, j < p.length → M j = -1 ∨ (Rng (M j) ∧ IsValAt p M j ∧ ∀ s ∈ (opn p j).src, 0 ≤ s.op → Rng (M s.op.toNat))
/-- what was formed stays -/
def Ext (M M' : Nat → Int) : Prop := ∀ j, M j ≠ -1 → M' j = M j
theorem Ext.refl (M : Nat → Int) : Ext M M := fun _ _ => rfl
theorem Ext.trans {a b c : Nat → Int} (h : Ext a b) (k : Ext b c) : Ext a c := fun j hj => by
  have := h j hj
  rw [k j (by rw [this]; exact hj), this]
theorem Rng.ne {x : Int} (h : Rng x) : x ≠ -1 := by unfold Rng at h; omega
theorem Ext.rng {M M' : Nat → Int} (h : Ext M M') {i : Nat} (hr : Rng (M i)) : Rng (M' i) := by rw [h i hr.ne]; exact hr
theorem Cl.start (p : List Opn) : Cl p (fun _ => -1) := fun _ _ => .inl rfl

theorem Cl.form {p : List Opn} {M : Nat → Int} (h : Cl p M) {i : Nat} (hi : i < p.length) (hs : ∀ s ∈ (opn p i).src, 0 ≤ s.op → Rng (M s.op.toNat)) :
    Cl p (upd M i (appl (opn p i).kind (srcN M (opn p i).src 0) (srcN M (opn p i).src 1) (srcN M (opn p i).src 2))) ∧ Ext M (upd M i (appl (opn p i).kind (srcN M (opn p i).src 0) (srcN M (opn p i).src 1) (srcN M (opn p i).src 2))) := by
  generalize hx : appl (opn p i).kind (srcN M (opn p i).src 0) (srcN M (opn p i).src 1) (srcN M (opn p i).src 2) = x
  have hxr : Rng x := hx ▸ appl_rng _ _ _ _
  have same : M i ≠ -1 → upd M i x = M := fun hne => by
    rcases h i hi with h1 | ⟨_, h2, _⟩
    · exact absurd h1 hne
    · funext j
      unfold upd
      split
      · rename_i e; subst e; rw [← hx]; exact h2.symm
      · rfl
  by_cases hne : M i = -1
  · have ext : Ext M (upd M i x) := fun j hj => upd_other fun e => hj (e ▸ hne)
    refine ⟨fun j hj => ?_, ext⟩
    by_cases e : j = i
    · subst e
      refine .inr ⟨by rw [upd_same]; exact hxr, ?_, fun s hs' h0 => ext.rng (hs s hs' h0)⟩
      unfold IsValAt
      have hc := fun m => srcN_congr (V := M) (V' := upd M j x) (l := (opn p j).src) (fun s hs' h0 => ext _ (hs s hs' h0).ne) m
      rw [hc, hc, hc, upd_same, hx]
    · rcases h j hj with h1 | ⟨h1, h2, h3⟩
      · exact .inl (by rw [upd_other e]; exact h1)
      · refine .inr ⟨by rw [upd_other e]; exact h1, ?_, fun s hs' h0 => ext.rng (h3 s hs' h0)⟩
        unfold IsValAt
        have hc := fun m => srcN_congr (V := M) (V' := upd M i x) (l := (opn p j).src) (fun s hs' h0 => ext _ (h3 s hs' h0).ne) m
        rw [hc, hc, hc, upd_other e]
        exact h2
  · rw [same hne]
    exact ⟨h, Ext.refl _⟩

/-- sources' values stay -/
theorem srcV_ext {M M' : Nat → Int} (h : Ext M M') {l : List Src} (hl : ∀ s ∈ l, 0 ≤ s.op → Rng (M s.op.toNat)) : l.map (srcV M') = l.map (srcV M) := by
  apply List.map_congr_left
  intro s hs
  unfold srcV
  split
  · rfl
  · exact h _ (hl s hs (by omega)).ne

/-- the j-th of a list -/
def vat (l : List Int) (j : Nat) : Int := match l[j]? with | some x => x | none => 0
theorem vat_src (M : Nat → Int) (l : List Src) (j : Nat) : vat (l.map (srcV M)) j = srcN M l j := by
  unfold vat srcN
  rw [List.getElem?_map]
  cases l[j]? <;> rfl
end Go.Proofs.Ytmjdmpapickgkaa

namespace Go.Proofs.Ytmjdmpapickgkaa
open Go.RowKit Go.Kk

/-- the times that a closure tells -/
def Tells57 (w : World) (C n : Nat) (T : Nat → Int) : Prop := ∀ (w1 : World) (k : Int), Below w.heap.size w w1 → 0 ≤ k → k < n → Calls Try.prog 57 #[.int .i64 k, .pointer (some ⟨C, 0, none⟩)] w1 fun e w' => e = .returned (.int .i64 (T k.toNat)) ∧ w' = w1

def ArrPost (T : Nat → Int) (l : List Src) (w : World) (e : Ending) (w' : World) : Prop := e = .returned (.tuple #[.int .i64 ((arr T l).getD 0), .bool (arr T l).isSome]) ∧ Below w.heap.size w w'

set_option maxRecDepth 100000 in
set_option maxHeartbeats 2000000 in
theorem arrival57 (o : Opn) (T : Nat → Int) (n C : Nat) (w : World) (hs : IsSrcs w o.h o.src) (hok : OpOk n o) (hT : ∀ k, k < n → -1000000 ≤ T k ∧ T k ≤ 1000000) (HF : Tells57 w C n T) :
    Calls Try.prog 52 #[o.v, .func (.func 57) #[] #[.pointer (some ⟨C, 0, none⟩)]] w (ArrPost T o.src w) := by
  have hsrc := hok.src
  have hlen := hok.len3
  have hb := arr_bd (B := 1000000) hT
  clear hok
  obtain ⟨t, a0, a1, u, kd, oh, src⟩ := o
  unfold Opn.v
  simp only at *
  obtain ⟨bh, ch, hoh⟩ := hs.shape
  subst hoh
  have HS := Lib.hid hs
  have HS' := Lib.hid (And.intro hsrc (And.intro hb hT))
  have HF := Lib.hid HF
  clear hs hsrc hb hT
  go_enter Try.func52, Try.ntmps52
  go_wp2
  go_loopw [6, 7, 14] (fun vl va i wr => ∃ (k : Nat) (acc : Option Int), k ≤ src.length ∧ i = .int .i64 k ∧ vl = .int .i64 (acc.getD 0) ∧ va = .bool acc.isSome ∧ Hid (acc = arr T (src.take k)) ∧ Below w.heap.size w wr) (fun _ _ i _ => src.length - (intOf i).toNat)
  case atStart => exact ⟨0, none, by omega, rfl, rfl, rfl, Lib.hid rfl, below_alloc _ _⟩
  case round =>
    obtain ⟨k, acc, hk, rfl, rfl, rfl, HA, hbel⟩ := hrel
    by_cases hlt : k < src.length
    · obtain ⟨b1, off, cp1, hv, hc, hcl⟩ := Sl.at HS.out (by omega)
      injection hv with hv1 _ hv3
      subst hv1 hv3
      obtain ⟨c0, c1, c2⟩ := src_cells (hcl.keeps (Keeps.of_below hbel)) k hlt
      have hsk := HS'.out.1 src[k] (List.getElem_mem _)
      have hbk : ∀ u, acc = some u → -1000000 ≤ u ∧ u ≤ 1000012 := fun u hu => HS'.out.2.1 (src.take k) (fun s hs => HS'.out.1 s (List.mem_of_mem_take hs)) u (HA.out ▸ hu)
      have hak := arr_take T src k hlt
      rw [← HA.out] at hak
      have hcb := @comes_bd T src[k] n 1000000 HS'.out.2.2
      clear hcl
      generalize src[k] = s at *
      obtain ⟨so, sv, sh⟩ := s
      simp only at *
      by_cases hneg : so < 0
      · rw [arrStep_neg hneg] at hak
        have HK := Lib.hid hak
        clear hak hbk hcb hsk
        have hneg' : decide (so < 0) = true := by simpa using hneg
        go_wp2
        go_roundw
        case rel => exact ⟨k + 1, acc, by omega, by go_num, rfl, rfl, Lib.hid HK.out.symm, hbel.alloc hbel.size _⟩
        case measure => simp [intOf]; omega
      · have h3 : 0 ≤ so ∧ so < n ∧ sv = 0 ∧ 0 ≤ sh ∧ sh ≤ 12 := by rcases hsk with ⟨h, _⟩ | h; · omega
                                                                    · exact h
        obtain ⟨h31, h32, h33, h34, h35⟩ := h3
        have hcv := hcb h31 h32 ⟨h34, h35⟩
        have HK := Lib.hid hak
        clear hak hcb hsk h33
        have hcall := fun w1 hb => HF.out w1 so hb h31 h32
        have hcd : comes T ⟨so, sv, sh⟩ = T so.toNat + max 1 sh := rfl
        rw [hcd] at hcv
        have HCD := Lib.hid hcd
        clear hcd
        have hTk := HS'.out.2.2 so.toNat (by omega)
        generalize T so.toNat = tk at *
        have hbA := hbel.alloc hbel.size (.cells #[.int .i64 so, .int .i64 sv, .int .i64 sh] 52)
        have y1 : IntKind.i64.wrap (tk + sh) = tk + sh := IntWalk.i64_in _ (by omega)
        have y2 : IntKind.i64.wrap (tk + 1) = tk + 1 := IntWalk.i64_in _ (by omega)
        go_wp2
        go_quiet ((go_at_call 57; refine Calls.quiet_of_same (hcall _ ?_); first | exact hbA | exact below_drewN' hbA _))
        have HK' := Lib.hid (And.intro HK.out HCD.out)
        clear y1 y2 HK HCD
        clear HA
        cases acc with
        | none =>
          go_wp2
          go_roundw
          case rel => exact ⟨k + 1, some (tk + max 1 sh), by omega, by go_num, rfl, rfl, Lib.hid (by rw [HK'.out.1, arrStep_none (show ¬ so < 0 by omega), HK'.out.2]), below_drewN' hbA _⟩
          case measure => simp [intOf]; omega
        | some v =>
          have hbv := hbk v rfl
          by_cases hmore : v < tk + max 1 sh
          · go_wp2
            go_roundw
            case rel => exact ⟨k + 1, some (tk + max 1 sh), by omega, by go_num, rfl, rfl, Lib.hid (by rw [HK'.out.1, arrStep_more (show ¬ so < 0 by omega) (by rw [HK'.out.2]; omega), HK'.out.2]), below_drewN' hbA _⟩
            case measure => simp [intOf]; omega
          · go_wp2
            go_roundw
            case rel => exact ⟨k + 1, some v, by omega, by go_num, rfl, rfl, Lib.hid (by rw [HK'.out.1, arrStep_less (show ¬ so < 0 by omega) (by rw [HK'.out.2]; omega)]), below_drewN' hbA _⟩
            case measure => simp [intOf]; omega
    · obtain rfl : k = src.length := by omega
      have HA2 : Hid (acc = arr T src) := Lib.hid (by rw [HA.out, List.take_length])
      clear HA
      go_wp2
      go_ret2
      unfold ArrPost
      rw [← HA2.out]
      exact ⟨rfl, hbel⟩
end Go.Proofs.Ytmjdmpapickgkaa

namespace Go.Proofs.Ytmjdmpapickgkaa
open Go.RowKit Go.Kk

theorem okProg_narrow {p : List Opn} (h : okProg p = true) : Narrow p :=
  ⟨by have := okProg_len h; omega, fun o ho => by obtain ⟨i, hi, rfl⟩ := List.getElem_of_mem ho; have := (okProg_op h i hi).len3; omega⟩

set_option maxHeartbeats 1000000 in
theorem closure57 (p : List Opn) (base : Option Addr) (cp C : Nat) (w : World) (hl : IsProg w (.slice base p.length cp) p) (hC : w.cell? ⟨C, 0, none⟩ = some (.slice base p.length cp)) (hlen : p.length ≤ 1000000) : Tells57 w C p.length (timeOf p) := by
  intro w1 k hb h0 hk
  obtain ⟨j, rfl⟩ := Int.eq_ofNat_of_zero_le h0
  have hj : j < p.length := by omega
  obtain ⟨b1, off, cp1, hv, hc, hcl⟩ := Sl.at hl.1 (by omega)
  injection hv with hv1 _ hv3
  subst hv1 hv3
  obtain ⟨c0, _⟩ := op_cells (hcl.keeps (Keeps.of_below hb)) j hj
  have hC' := Keeps.of_below hb _ _ hC
  have hti : timeOf p j = p[j].time := by unfold timeOf; rw [dif_pos hj]
  have hx : (j : Int).toNat = j := by omega
  rw [hx, hti]
  clear hl hcl hti hx
  generalize p[j].time = x at *
  go_enter Try.func57, Try.ntmps57
  go_wp2
  go_ret
  exact ⟨rfl, rfl⟩

set_option maxHeartbeats 2000000 in
set_option maxRecDepth 100000 in
theorem slacks_any (p : List Opn) (v : Value) (w : World) (hl : IsProg w v p) (hok : okProg p = true) :
    Calls Try.prog 42 #[v] w fun e w' => ∃ v', e = .returned v' ∧ IsInts w' v' (slackL p) ∧ Below w.heap.size w w' := by
  obtain ⟨bs, cq, hval⟩ := hl.1.shape
  subst hval
  have hlp := okProg_len hok
  have HL := Lib.hid hl
  have HO := Lib.hid hok
  clear hl hok
  go_enter Try.func42, Try.ntmps42
  go_wp2
  have HCL : Hid (Tells57 (w.alloc (.cells #[.slice bs p.length cq] 22)) w.heap.size p.length (timeOf p)) := Lib.hid (closure57 p bs cq _ _ (HL.out.keeps (Keeps.of_below (below_alloc w _))) (newA w _ _ _ 0 _ rfl rfl) (by omega))
  go_loopw [3, 10] (fun vo i wr => ∃ k : Nat, k ≤ p.length ∧ i = .int .i64 k ∧ Below (w.heap.size + 1) (w.alloc (.cells #[.slice bs p.length cq] 22)) wr ∧ wr.ownsRow (w.heap.size + 1) 3 1 vo k (I64 ((slackL p).take k))) (fun _ i _ => p.length - (intOf i).toNat)
  case atStart => exact ⟨0, by omega, rfl, by simpa using Below.refl (w.alloc (.cells #[.slice bs p.length cq] 22)).heap.size _, World.ownsRow_nil _ _ _ _⟩
  case round =>
    obtain ⟨k, hk, rfl, hbel, hown⟩ := hrel
    have hb0 : Below w.heap.size w wr := (below_alloc w _).trans (hbel.mono (by omega))
    have hsz : w.heap.size + 1 ≤ wr.heap.size := by have := hbel.size; simpa using this
    have hCc : wr.cell? ⟨w.heap.size, 0, none⟩ = some (.slice bs p.length cq) := (hbel.cell (p := ⟨w.heap.size, 0, none⟩) (by simp)).trans (newA w _ _ _ 0 _ rfl rfl)
    by_cases hlt : k < p.length
    · obtain ⟨b1, off, cp1, hv, hc, hcl⟩ := Sl.at HL.out.1 (by omega)
      injection hv with hv1 _ hv3
      subst hv1 hv3
      obtain ⟨c0, c1, c2, c3, c4, c5⟩ := op_cells (hcl.keeps (Keeps.of_below hb0)) k hlt
      have hs := (HL.out.2 p[k] (List.getElem_mem _)).keeps (Keeps.of_below (hb0.alloc hb0.size (.cells #[.int .i64 p[k].time, .int .i64 p[k].c0, .int .i64 p[k].c1, .int .i64 p[k].unit, .int .i64 p[k].kind, p[k].h] 37)))
      have hoo := okProg_op HO.out k hlt
      have HT57 : Hid (Tells57 (wr.alloc (.cells #[.int .i64 p[k].time, .int .i64 p[k].c0, .int .i64 p[k].c1, .int .i64 p[k].unit, .int .i64 p[k].kind, p[k].h] 37)) w.heap.size p.length (timeOf p)) := Lib.hid (fun w1 j hb => HCL.out w1 j (by
        have := (hbel.alloc hsz (.cells #[.int .i64 p[k].time, .int .i64 p[k].c0, .int .i64 p[k].c1, .int .i64 p[k].unit, .int .i64 p[k].kind, p[k].h] 37)).trans (hb.mono (by simp; omega))
        simpa using this))
      have harr := arrival57 p[k] (timeOf p) p.length w.heap.size _ hs hoo (fun j hj => by have := timeOf_bd HO.out j hj; omega) HT57.out
      have hsn : I64 ((slackL p).take (k + 1)) = I64 ((slackL p).take k) ++ [.int .i64 (slackI (timeOf p) p[k])] := by
        rw [List.take_succ_eq_append_getElem (by simpa [slackL] using hlt)]
        simp [I64, slackL]
      have hbd := slackI_bd HO.out k hlt
      have hab := arr_bd (B := 100000) (timeOf_bd HO.out) p[k].src hoo.src
      have HSN := Lib.hid hsn
      have hto := hoo.t
      obtain ⟨bh, ch, hoh⟩ := hs.shape
      have harr := Lib.hid harr
      clear hcl hs hoo hsn HT57 HCL
      unfold Opn.v slackI ArrPost at *
      generalize p[k] = o at *
      obtain ⟨t, a0, a1, u, kd, oh, src⟩ := o
      simp only at *
      subst hoh
      generalize arr (timeOf p) src = ar at *
      have hown1 := Lib.hid (hown.alloc (.cells #[.int .i64 t, .int .i64 a0, .int .i64 a1, .int .i64 u, .int .i64 kd, .slice bh src.length ch] 37))
      have hb1 := hb0.alloc hb0.size (.cells #[.int .i64 t, .int .i64 a0, .int .i64 a1, .int .i64 u, .int .i64 kd, .slice bh src.length ch] 37)
      have hb2 := hbel.alloc hsz (.cells #[.int .i64 t, .int .i64 a0, .int .i64 a1, .int .i64 u, .int .i64 kd, .slice bh src.length ch] 37)
      clear hown
      cases ar with
      | none =>
        simp only [Option.getD_none, Option.isSome_none] at harr HSN
        clear hab hbd
        go_wp2_with (first
          | (go_at_call 52; refine harr.out.mono ?_; rintro e w1 ⟨rfl, h1⟩; have cT : w1.cell? ⟨wr.heap.size, 0, none⟩ = some (.int .i64 t) := Keeps.of_below h1 _ _ (newA wr _ _ _ 0 _ rfl rfl))
          | (at_builtin; go_must (refine wpList_push rfl _ _ _ rfl slT25 _ rfl (own_below hown1.out h1) rfl rfl rfl (by omega) (by omega) (hb2.trans (h1.mono (by simp; omega))) (Nat.le_refl _) (by have := h1.size; simp at this; omega) _ HSN.out.symm ?_); intro v' w2 hown2 hb3))
        go_roundw
        case rel => exact ⟨k + 1, by omega, by go_num, hb3, hown2⟩
        case measure => simp [intOf]; omega
      | some x =>
        simp only [Option.getD_some, Option.isSome_some] at harr HSN
        have hx := hab x rfl
        clear hab hbd
        by_cases htx : t < x
        · replace HSN := Lib.hid (by have := HSN.out; rw [if_pos htx] at this; exact this)
          go_wp2_with (first
            | (go_at_call 52; refine harr.out.mono ?_; rintro e w1 ⟨rfl, h1⟩; have cT : w1.cell? ⟨wr.heap.size, 0, none⟩ = some (.int .i64 t) := Keeps.of_below h1 _ _ (newA wr _ _ _ 0 _ rfl rfl))
            | (at_builtin; go_must (refine wpList_push rfl _ _ _ rfl slT25 _ rfl (own_below hown1.out h1) rfl rfl rfl (by omega) (by omega) (hb2.trans (h1.mono (by simp; omega))) (Nat.le_refl _) (by have := h1.size; simp at this; omega) _ HSN.out.symm ?_); intro v' w2 hown2 hb3))
          go_roundw
          case rel => exact ⟨k + 1, by omega, by go_num, hb3, hown2⟩
          case measure => simp [intOf]; omega
        · replace HSN := Lib.hid (by have := HSN.out; rw [if_neg htx] at this; exact this)
          go_wp2_with (first
            | (go_at_call 52; refine harr.out.mono ?_; rintro e w1 ⟨rfl, h1⟩; have cT : w1.cell? ⟨wr.heap.size, 0, none⟩ = some (.int .i64 t) := Keeps.of_below h1 _ _ (newA wr _ _ _ 0 _ rfl rfl))
            | (at_builtin; go_must (refine wpList_push rfl _ _ _ rfl slT25 _ rfl (own_below hown1.out h1) rfl rfl rfl (by omega) (by omega) (hb2.trans (h1.mono (by simp; omega))) (Nat.le_refl _) (by have := h1.size; simp at this; omega) _ HSN.out.symm ?_); intro v' w2 hown2 hb3))
          go_roundw
          case rel => exact ⟨k + 1, by omega, by go_num, hb3, hown2⟩
          case measure => simp [intOf]; omega
    · obtain rfl : k = p.length := by omega
      go_wp2
      go_ret
      have hl : (slackL p).length = p.length := by simp [slackL]
      rw [List.take_of_length_le (by omega)] at hown
      refine ⟨_, rfl, ?_, hb0⟩
      unfold IsInts
      rw [hl]
      exact Sl.of_own hown
end Go.Proofs.Ytmjdmpapickgkaa
