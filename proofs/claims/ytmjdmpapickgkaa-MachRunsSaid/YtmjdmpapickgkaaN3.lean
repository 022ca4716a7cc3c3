/- Plain facts: the values of a program. No walk. -/
import Derived.Test.YtmjdmpapickgkaaN2
namespace Go.Proofs.Ytmjdmpapickgkaa
open Go.RowKit Go.Kk Go.Sort

def opVal (k a b c : Int) : Int := if k = 1 then a else if k = 2 then a + b else if k = 3 then a - b + 10007 else if k = 4 then a * b else if k = 5 then a + b * c else if k = 6 then max a b else if k = 7 then min a b else 0
def appl (k a b c : Int) : Int := opVal k a b c % 10007
def srcV (V : Nat → Int) (s : Src) : Int := if s.op < 0 then s.val else V s.op.toNat
/-- the j-th value that sources give -/
def srcN (V : Nat → Int) (l : List Src) (j : Nat) : Int := match l[j]? with | some s => srcV V s | none => 0
def IsValAt (p : List Opn) (V : Nat → Int) (i : Nat) : Prop := V i = appl (opn p i).kind (srcN V (opn p i).src 0) (srcN V (opn p i).src 1) (srcN V (opn p i).src 2)
def Rng (x : Int) : Prop := 0 ≤ x ∧ x ≤ 10006
/-- each operation takes what comes earlier -/
def Ready (p : List Opn) : Prop := ∀ i, i < p.length → ∀ s ∈ (opn p i).src, 0 ≤ s.op → s.op.toNat < p.length ∧ timeOf p s.op.toNat < timeOf p i

theorem appl_rng (k a b c : Int) : Rng (appl k a b c) := by unfold appl Rng; omega
theorem timeOf_opn {p : List Opn} {i : Nat} (h : i < p.length) : timeOf p i = (opn p i).time := by unfold timeOf; rw [dif_pos h, opn_eq h]

theorem srcN_congr {V V' : Nat → Int} {l : List Src} (h : ∀ s ∈ l, 0 ≤ s.op → V' s.op.toNat = V s.op.toNat) (j : Nat) : srcN V' l j = srcN V l j := by
  unfold srcN
  cases hl : l[j]? with
  | none => rfl
  | some s =>
    simp only [srcV]
    split
    · rfl
    · exact h s (List.mem_of_getElem? hl) (by omega)

/-- a source's value is in range -/
theorem srcN_rng {V : Nat → Int} {n : Nat} {l : List Src} (hV : ∀ i, i < n → Rng (V i)) (hl : ∀ s ∈ l, (s.op = -1 ∧ 0 ≤ s.val ∧ s.val ≤ 10006 ∧ s.hops = 0) ∨ (0 ≤ s.op ∧ s.op < n ∧ s.val = 0 ∧ 0 ≤ s.hops ∧ s.hops ≤ 12)) (j : Nat) : Rng (srcN V l j) := by
  unfold srcN
  cases hj : l[j]? with
  | none => exact ⟨by simp, by simp⟩
  | some s =>
    have := hl s (List.mem_of_getElem? hj)
    simp only [srcV]
    split
    · exact ⟨by omega, by omega⟩
    · exact hV _ (by omega)

theorem arr_none {T : Nat → Int} {l : List Src} : ∀ {acc : Option Int}, l.foldl (arrStep T) acc = none → ∀ s ∈ l, s.op < 0 := by
  suffices h : ∀ (l : List Src) (acc : Option Int), l.foldl (arrStep T) acc = none → acc = none ∧ ∀ s ∈ l, s.op < 0 from fun _ h2 => (h l _ h2).2
  intro l
  induction l with
  | nil => intro acc h; exact ⟨h, by simp⟩
  | cons s l ih =>
    intro acc h
    obtain ⟨h1, h2⟩ := ih _ h
    unfold arrStep at h1
    split at h1
    · rename_i hs
      exact ⟨h1, fun x hx => by rcases List.mem_cons.1 hx with rfl | hx; · exact hs
                                · exact h2 x hx⟩
    · cases h1
theorem arr_ge {T : Nat → Int} : ∀ (l : List Src) (acc : Option Int) (u : Int), l.foldl (arrStep T) acc = some u → (∀ v, acc = some v → v ≤ u) ∧ ∀ s ∈ l, 0 ≤ s.op → comes T s ≤ u := by
  intro l
  induction l with
  | nil => intro acc u h; exact ⟨fun v hv => by rw [show acc = some u from h] at hv; cases hv; omega, by simp⟩
  | cons s l ih =>
    intro acc u h
    obtain ⟨h1, h2⟩ := ih _ u h
    unfold arrStep at h1
    split at h1
    · rename_i hs
      exact ⟨h1, fun x hx h0 => by
        rcases List.mem_cons.1 hx with rfl | hx
        · omega
        · exact h2 x hx h0⟩
    · have h3 := h1 _ rfl
      refine ⟨fun v hv => ?_, fun x hx h0 => ?_⟩
      · subst hv; simp only at h3; split at h3 <;> omega
      · rcases List.mem_cons.1 hx with rfl | hx
        · cases acc with
          | none => exact h3
          | some v => simp only at h3; split at h3 <;> omega
        · exact h2 x hx h0

theorem ready_of {p : List Opn} (hok : okProg p = true) (h : waitL p = []) : Ready p := by
  intro i hi s hs h0
  have hoo := okProg_op hok i hi
  rw [← opn_eq hi] at hoo
  have hsb := hoo.src s hs
  have hop : s.op < p.length := by omega
  refine ⟨by omega, ?_⟩
  have hw : waitsB (timeOf p) (opn p i) = false := by
    unfold waitL at h
    rw [List.filter_eq_nil_iff] at h
    have := h i (by simpa using hi)
    simpa using this
  unfold waitsB at hw
  cases ha : arr (timeOf p) (opn p i).src with
  | none => have := arr_none (acc := none) ha s hs; omega
  | some u =>
    rw [ha] at hw
    have h1 := (arr_ge _ _ u ha).2 s hs h0
    simp only [decide_eq_false_iff_not] at hw
    have h2 : s.hops ≤ max 1 s.hops ∧ 1 ≤ max 1 s.hops := by omega
    unfold comes at h1
    rw [timeOf_opn hi]
    omega

/-- two valuations of a ready program are the same -/
theorem val_unique {p : List Opn} (hok : okProg p = true) (hr : Ready p) {V V' : Nat → Int} (h : ∀ i, i < p.length → IsValAt p V i) (h' : ∀ i, i < p.length → IsValAt p V' i) : ∀ i, i < p.length → V i = V' i := by
  suffices H : ∀ (m : Nat) (i : Nat), i < p.length → (timeOf p i + 100000).toNat < m → V i = V' i from fun i hi => H _ i hi (Nat.lt_succ_self _)
  intro m
  induction m with
  | zero => intro i _ h; omega
  | succ m ih =>
    intro i hi hm
    have e1 := h i hi
    have e2 := h' i hi
    unfold IsValAt at e1 e2
    have hc := fun j => srcN_congr (V := V') (V' := V) (l := (opn p i).src) (fun s hs h0 => by
      obtain ⟨h1, h2⟩ := hr i hi s hs h0
      have := timeOf_bd hok i hi
      have := timeOf_bd hok _ h1
      exact ih _ h1 (by omega)) j
    rw [e1, e2, hc, hc, hc]

/-! in order of time -/
def upd (V : Nat → Int) (i : Nat) (x : Int) : Nat → Int := fun j => if j = i then x else V j
theorem upd_same (V : Nat → Int) (i : Nat) (x : Int) : upd V i x i = x := by simp [upd]
theorem upd_other {V : Nat → Int} {i j : Nat} {x : Int} (h : j ≠ i) : upd V i x j = V j := by simp [upd, h]

theorem Order.size {p : List Opn} {d : Array Nat} (h : Order p d) : d.size = p.length := by have := h.perm.length_eq; simpa using this
theorem Order.lt {p : List Opn} {d : Array Nat} (h : Order p d) (j : Nat) (hj : j < p.length) : d[j]! < p.length := by
  have hs := h.size
  have : d[j]! ∈ d.toList := by rw [getElem!_pos d j (by omega)]; simp
  have := h.perm.mem_iff.1 this
  simpa using this
theorem Order.inj {p : List Opn} {d : Array Nat} (h : Order p d) {i j : Nat} (hi : i < p.length) (hj : j < p.length) (e : d[i]! = d[j]!) : i = j := by
  have hs := h.size
  have hn : d.toList.Nodup := h.perm.nodup_iff.2 List.nodup_range
  rw [getElem!_pos d i (by omega), getElem!_pos d j (by omega)] at e
  rcases Nat.lt_trichotomy i j with hlt | he | hlt
  · have := List.pairwise_iff_getElem.1 hn i j (by simp; omega) (by simp; omega) hlt
    simp at this; exact absurd e this
  · exact he
  · have := List.pairwise_iff_getElem.1 hn j i (by simp; omega) (by simp; omega) hlt
    simp at this; exact absurd e.symm this
theorem Order.surj {p : List Opn} {d : Array Nat} (h : Order p d) {i : Nat} (hi : i < p.length) : ∃ j, j < p.length ∧ d[j]! = i := by
  have hs := h.size
  have : i ∈ d.toList := h.perm.mem_iff.2 (by simpa using hi)
  obtain ⟨j, hj, e⟩ := List.getElem_of_mem this
  have hj' : j < d.size := by simpa using hj
  exact ⟨j, by omega, by rw [getElem!_pos d j hj']; simpa using e⟩
/-- what is earlier in time stands earlier -/
theorem Order.early {p : List Opn} {d : Array Nat} (h : Order p d) {k i : Nat} (hk : k < p.length) (hi : i < p.length) (ht : timeOf p i < timeOf p d[k]!) : ∃ j, j < k ∧ d[j]! = i := by
  obtain ⟨j, hj, e⟩ := h.surj hi
  refine ⟨j, ?_, e⟩
  rcases Nat.lt_or_ge j k with h1 | h1
  · exact h1
  · have := h.srt k j (Nat.zero_le _) h1 hj
    rw [e] at this
    omega

def Done (p : List Opn) (d : Array Nat) (V : Nat → Int) (k : Nat) : Prop := ∀ j, j < k → IsValAt p V d[j]!
theorem Done.step {p : List Opn} {d : Array Nat} {V : Nat → Int} {k : Nat} (h : Done p d V k) (ho : Order p d) (hr : Ready p) (hk : k < p.length) :
    Done p d (upd V d[k]! (appl (opn p d[k]!).kind (srcN V (opn p d[k]!).src 0) (srcN V (opn p d[k]!).src 1) (srcN V (opn p d[k]!).src 2))) (k + 1) := by
  generalize hx : appl (opn p d[k]!).kind (srcN V (opn p d[k]!).src 0) (srcN V (opn p d[k]!).src 1) (srcN V (opn p d[k]!).src 2) = x
  have key : ∀ j, j ≤ k → ∀ m, srcN (upd V d[k]! x) (opn p d[j]!).src m = srcN V (opn p d[j]!).src m := by
    intro j hj m
    refine srcN_congr (fun s hs h0 => ?_) m
    obtain ⟨h1, h2⟩ := hr _ (ho.lt j (by omega)) s hs h0
    obtain ⟨i, hi, e⟩ := ho.early (by omega) h1 h2
    refine upd_other fun e2 => ?_
    have := ho.inj (i := i) (j := k) (by omega) hk (e.trans e2)
    omega
  intro j hj
  unfold IsValAt
  rw [key j (by omega), key j (by omega), key j (by omega)]
  by_cases e : j = k
  · subst e; rw [upd_same, hx]
  · rw [upd_other fun e2 => e (ho.inj (by omega) hk e2)]
    exact h j (by omega)
theorem Done.all {p : List Opn} {d : Array Nat} {V : Nat → Int} (h : Done p d V p.length) (ho : Order p d) : ∀ i, i < p.length → IsValAt p V i := by
  intro i hi
  obtain ⟨j, hj, rfl⟩ := ho.surj hi
  exact h j hj
end Go.Proofs.Ytmjdmpapickgkaa
