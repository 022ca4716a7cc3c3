/- Plain facts: values by need. No walk. -/
import Derived.Test.YtmjdmpapickgkaaN3
namespace Go.Proofs.Ytmjdmpapickgkaa
open Go.RowKit Go.Kk

def upd' (V : Nat → Int) (i : Nat) (x : Int) : Nat → Int := upd V i x
/-- what is formed is right, and so are its sources -/
def Cl (p : List Opn) (M : Nat → Int) : Prop := ∀ j, j < p.length → M j = -1 ∨ (Rng (M j) ∧ IsValAt p M j ∧ ∀ s ∈ (opn p j).src, 0 ≤ s.op → Rng (M s.op.toNat))
/-- what was formed stays -/
def Ext (M M' : Nat → Int) : Prop := ∀ j, M j ≠ -1 → M' j = M j
theorem Ext.refl (M : Nat → Int) : Ext M M := fun _ _ => rfl
theorem Ext.trans {a b c : Nat → Int} (h : Ext a b) (k : Ext b c) : Ext a c := fun j hj => by
  have := h j hj
  rw [k j (by rw [this]; exact hj), this]
theorem Rng.ne {x : Int} (h : Rng x) : x ≠ -1 := by unfold Rng at h; omega
theorem Ext.rng {M M' : Nat → Int} (h : Ext M M') {i : Nat} (hr : Rng (M i)) : Rng (M' i) := by rw [h i hr.ne]; exact hr
theorem Cl.start (p : List Opn) : Cl p (fun _ => -1) := fun _ _ => .inl rfl

theorem Cl.form {p : List Opn} {M : Nat → Int} (h : Cl p M) {i : Nat} (hi : i < p.length) (hs : ∀ s ∈ (opn p i).src, 0 ≤ s.op → Rng (M s.op.toNat)) :
    Cl p (upd M i (appl (opn p i).kind (srcN M (opn p i).src 0) (srcN M (opn p i).src 1) (srcN M (opn p i).src 2))) ∧ Ext M (upd M i (appl (opn p i).kind (srcN M (opn p i).src 0) (srcN M (opn p i).src 1) (srcN M (opn p i).src 2))) := by
  generalize hx : appl (opn p i).kind (srcN M (opn p i).src 0) (srcN M (opn p i).src 1) (srcN M (opn p i).src 2) = x
  have hxr : Rng x := hx ▸ appl_rng _ _ _ _
  have same : M i ≠ -1 → upd M i x = M := fun hne => by
    rcases h i hi with h1 | ⟨_, h2, _⟩
    · exact absurd h1 hne
    · funext j
      unfold upd
      split
      · rename_i e; subst e; rw [← hx]; exact h2.symm
      · rfl
  by_cases hne : M i = -1
  · have ext : Ext M (upd M i x) := fun j hj => upd_other fun e => hj (e ▸ hne)
    refine ⟨fun j hj => ?_, ext⟩
    by_cases e : j = i
    · subst e
      refine .inr ⟨by rw [upd_same]; exact hxr, ?_, fun s hs' h0 => ext.rng (hs s hs' h0)⟩
      unfold IsValAt
      have hc := fun m => srcN_congr (V := M) (V' := upd M j x) (l := (opn p j).src) (fun s hs' h0 => ext _ (hs s hs' h0).ne) m
      rw [hc, hc, hc, upd_same, hx]
    · rcases h j hj with h1 | ⟨h1, h2, h3⟩
      · exact .inl (by rw [upd_other e]; exact h1)
      · refine .inr ⟨by rw [upd_other e]; exact h1, ?_, fun s hs' h0 => ext.rng (h3 s hs' h0)⟩
        unfold IsValAt
        have hc := fun m => srcN_congr (V := M) (V' := upd M i x) (l := (opn p j).src) (fun s hs' h0 => ext _ (h3 s hs' h0).ne) m
        rw [hc, hc, hc, upd_other e]
        exact h2
  · rw [same hne]
    exact ⟨h, Ext.refl _⟩

/-- sources' values stay -/
theorem srcV_ext {M M' : Nat → Int} (h : Ext M M') {l : List Src} (hl : ∀ s ∈ l, 0 ≤ s.op → Rng (M s.op.toNat)) : l.map (srcV M') = l.map (srcV M) := by
  apply List.map_congr_left
  intro s hs
  unfold srcV
  split
  · rfl
  · exact h _ (hl s hs (by omega)).ne

/-- the j-th of a list -/
def vat (l : List Int) (j : Nat) : Int := match l[j]? with | some x => x | none => 0
theorem vat_src (M : Nat → Int) (l : List Src) (j : Nat) : vat (l.map (srcV M)) j = srcN M l j := by
  unfold vat srcN
  rw [List.getElem?_map]
  cases l[j]? <;> rfl
end Go.Proofs.Ytmjdmpapickgkaa
