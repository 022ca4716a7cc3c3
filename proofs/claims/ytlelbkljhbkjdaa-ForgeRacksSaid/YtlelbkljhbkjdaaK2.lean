/- append as a step of a region that draws its order. -/
import Derived.Test.YtlelbkljhbkjdaaK
import Derived.Deep.RegionLaw
namespace Go.Kk
open Go.RowKit

/-- append as one step of a region that draws its order -/
theorem step_append {P : Program} {w : World} {ops : Array Oper} {o : Oper} {a : Act} {Q : Exit → Act → World → Prop} {K : Act → World → Prop} {E : Prop} (hgd : o.guard = none) (s x : Operand) (t : TypeId)
    (ho : o.op = .call { callee := .builtin .append, args := #[s, x], argTypes := #[t, t] })
    {e : TypeId} {sz bytes : Nat} {z : Value} (T : SlT P t e sz bytes z) {B : Nat} {v : Value} {n : Nat} {xs : List Value} (hs : a.eval s = v) (hown : w.ownsRow B e sz v n xs)
    {vx : Value} {m : Nat} {news : List Value} (hx : a.eval x = vx) (hsl : Sl w sz vx m news) (h1 : ∀ u ∈ news, u.oneCell' = true)
    (h63 : n + m ≤ maxLen) (hbytes : (n + m) * bytes ≤ 140737488355328) (hB : B ≤ w.heap.size) (k : Nat) (ys : List Value) (hk : n + m = k) (hys : xs ++ news = ys)
    (h : ∀ v' w', w'.ownsRow B e sz v' k ys → w.grownBy w' v.ownBlock → K (a.put o.dst v') w') :
    if Region.wanted o (yielded ops a.tmps) = true then Oper.wp P o a w K Q else E := by
  subst hk
  subst hys
  have hw : Region.wanted o (yielded ops a.tmps) = true := by simp [Region.wanted, hgd]
  rw [if_pos hw]
  obtain ⟨i, hi, hz, hsz, hby⟩ := T.hi
  rcases hsl.2 with ⟨rfl, rfl⟩ | ⟨b, off, cap, rfl, _, hc⟩ | ⟨ad, cap, rfl, rfl⟩
  · have hn : news = [] := List.eq_nil_of_length_eq_zero (by simpa using hsl.1)
    subst hn
    have hrun := run_append_owned_none (P := P) (w := w) B t o.type e i sz T.ht hi v n xs hown
    have hk := h v w (by simpa using hown) ⟨rfl, rfl, rfl, Nat.le_refl _, fun _ _ _ => rfl⟩
    unfold Oper.wp
    simp [execOp, ho, resolve, invoke, builtin, hs, hx, hrun, Result.andThen]
    exact hk
  · refine wp_append_own w s x t ho B e i z sz bytes T.ht hi hz hsz hby T.hz T.pos v n xs hs hown ⟨b, off, none⟩ m cap news hx hsl.1 ?_ h1 h63 hbytes hB fun v' w' h1 h2 _ => h v' w' h1 h2
    intro j u hu
    rw [Addr.add_lit]
    exact hc j u hu
  · have hn : news = [] := List.eq_nil_of_length_eq_zero (by simpa using hsl.1)
    subst hn
    exact wp_append_own w s x t ho B e i z sz bytes T.ht hi hz hsz hby T.hz T.pos v n xs hs hown ad 0 cap [] hx hsl.1 (fun j u hu => by simp at hu) h1 h63 hbytes hB fun v' w' h1 h2 _ => h v' w' h1 h2

end Go.Kk
