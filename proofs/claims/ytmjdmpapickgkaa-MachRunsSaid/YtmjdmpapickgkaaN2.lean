/- Plain facts: when values come. No walk. -/
import Derived.Test.YtmjdmpapickgkaaN1
import Derived.Test.YtmjdmpapickgkaaS13
namespace Go.Proofs.Ytmjdmpapickgkaa
open Go.RowKit Go.Kk

/-- when the value of a source comes -/
def comes (T : Nat → Int) (s : Src) : Int := T s.op.toNat + max 1 s.hops
def arrStep (T : Nat → Int) (acc : Option Int) (s : Src) : Option Int := if s.op < 0 then acc else some (match acc with | none => comes T s | some u => if u < comes T s then comes T s else u)
/-- when the last value comes that is taken from operations; none: none is -/
def arr (T : Nat → Int) (l : List Src) : Option Int := l.foldl (arrStep T) none

theorem arr_take (T : Nat → Int) (l : List Src) (k : Nat) (hk : k < l.length) : arr T (l.take (k + 1)) = arrStep T (arr T (l.take k)) l[k] := by
  unfold arr
  rw [List.take_succ_eq_append_getElem hk, List.foldl_append]; rfl

theorem arrStep_neg {T : Nat → Int} {acc : Option Int} {s : Src} (h : s.op < 0) : arrStep T acc s = acc := if_pos h
theorem arrStep_none {T : Nat → Int} {s : Src} (h : ¬ s.op < 0) : arrStep T none s = some (comes T s) := if_neg h
theorem arrStep_more {T : Nat → Int} {s : Src} {u : Int} (h : ¬ s.op < 0) (hu : u < comes T s) : arrStep T (some u) s = some (comes T s) := by unfold arrStep; rw [if_neg h]; simp [hu]
theorem arrStep_less {T : Nat → Int} {s : Src} {u : Int} (h : ¬ s.op < 0) (hu : ¬ u < comes T s) : arrStep T (some u) s = some u := by unfold arrStep; rw [if_neg h]; simp [hu]

theorem comes_bd {T : Nat → Int} {s : Src} {n : Nat} {B : Int} (hT : ∀ k, k < n → -B ≤ T k ∧ T k ≤ B) (h0 : 0 ≤ s.op) (h1 : s.op < n) (hh : 0 ≤ s.hops ∧ s.hops ≤ 12) : -B ≤ comes T s ∧ comes T s ≤ B + 12 := by
  have := hT s.op.toNat (by omega)
  unfold comes; omega

/-- bounds of what comes -/
theorem arr_bd {T : Nat → Int} {n : Nat} {B : Int} (hT : ∀ k, k < n → -B ≤ T k ∧ T k ≤ B) (l : List Src) (hl : ∀ s ∈ l, (s.op = -1 ∧ 0 ≤ s.val ∧ s.val ≤ 10006 ∧ s.hops = 0) ∨ (0 ≤ s.op ∧ s.op < n ∧ s.val = 0 ∧ 0 ≤ s.hops ∧ s.hops ≤ 12)) :
    ∀ u, arr T l = some u → -B ≤ u ∧ u ≤ B + 12 := by
  suffices h : ∀ (l : List Src) (acc : Option Int), (∀ s ∈ l, (s.op = -1 ∧ 0 ≤ s.val ∧ s.val ≤ 10006 ∧ s.hops = 0) ∨ (0 ≤ s.op ∧ s.op < n ∧ s.val = 0 ∧ 0 ≤ s.hops ∧ s.hops ≤ 12)) → (∀ u, acc = some u → -B ≤ u ∧ u ≤ B + 12) → ∀ u, l.foldl (arrStep T) acc = some u → -B ≤ u ∧ u ≤ B + 12 from h l none hl (fun u hu => by cases hu)
  intro l
  induction l with
  | nil => intro acc _ ha u hu; exact ha u hu
  | cons s l ih =>
    intro acc hl ha u hu
    refine ih _ (fun x hx => hl x (by simp [hx])) (fun y hy => ?_) u hu
    unfold arrStep at hy
    split at hy
    · exact ha y hy
    · rename_i h0
      rcases hl s (by simp) with ⟨h1, _⟩ | ⟨h1, h2, _, h3⟩
      · omega
      · have hc := comes_bd hT h1 h2 h3
        cases acc with
        | none => simp at hy; omega
        | some v =>
          have := ha v rfl
          simp only [Option.some.injEq] at hy
          split at hy <;> omega

/-- by how many ticks an operation could be earlier: -1: it takes nothing; less: it is not ready -/
def slackI (T : Nat → Int) (o : Opn) : Int := match arr T o.src with
  | none => -1
  | some u => if o.time < u then o.time - u - 1 else o.time - u
/-- is it not ready -/
def waitsB (T : Nat → Int) (o : Opn) : Bool := match arr T o.src with
  | none => false
  | some u => decide (o.time < u)
theorem slackI_wait (T : Nat → Int) (o : Opn) : decide (slackI T o < -1) = waitsB T o := by
  unfold slackI waitsB
  cases arr T o.src with
  | none => simp
  | some u => simp only; split <;> simp_all <;> omega
def slackL (p : List Opn) : List Int := p.map (slackI (timeOf p))
def waitL (p : List Opn) : List Nat := (List.range p.length).filter fun i => waitsB (timeOf p) (opn p i)
def ints (l : List Nat) : List Int := l.map fun (x : Nat) => (x : Int)

theorem timeOf_bd {p : List Opn} (h : okProg p = true) (k : Nat) (hk : k < p.length) : -100000 ≤ timeOf p k ∧ timeOf p k ≤ 100000 := by
  unfold timeOf
  rw [dif_pos hk]
  exact (okProg_op h k hk).t
theorem slackI_bd {p : List Opn} (h : okProg p = true) (k : Nat) (hk : k < p.length) : -1000000 ≤ slackI (timeOf p) p[k] ∧ slackI (timeOf p) p[k] ≤ 1000000 := by
  have ho := okProg_op h k hk
  have hb := arr_bd (B := 100000) (timeOf_bd h) p[k].src ho.src
  have ht := ho.t
  unfold slackI
  cases ha : arr (timeOf p) p[k].src with
  | none => simp only; omega
  | some u => have := hb u ha; simp only; split <;> omega
theorem waitL_eq (p : List Opn) : waitL p = (List.range p.length).filter fun i => decide (slackI (timeOf p) (opn p i) < -1) := by
  unfold waitL
  apply List.filter_congr
  intro i _
  exact (slackI_wait _ _).symm
theorem slackL_get (p : List Opn) (i : Nat) (hi : i < p.length) : (slackL p)[i]? = some (slackI (timeOf p) (opn p i)) := by
  rw [opn_eq hi]; simp [slackL, hi]
/-- a list that grows by what passes a test -/
theorem filter_range_succ (f : Nat → Bool) (k : Nat) : (List.range (k + 1)).filter f = (List.range k).filter f ++ (if f k then [k] else []) := by
  rw [List.range_succ, List.filter_append]
  congr 1
  by_cases h : f k = true <;> simp [h]
end Go.Proofs.Ytmjdmpapickgkaa
