/- append onto a slice of the call's own, with the block in which the new one lies. -/
import Derived.Test.YtlelbkljhbkjdaaK
import Derived.Maps.AppendAt
namespace Go.Kk
open Go.RowKit

section
variable {P : Program} {w : World} {ops : Array Oper} {rest : List Oper} {o : Oper} {a : Act} {Q : Exit → Act → World → Prop}

theorem wpList_append_at (hgd : o.guard = none) (s x : Operand) (t : TypeId) (ho : o.op = .call { callee := .builtin .append, args := #[s, x], argTypes := #[t, t] })
    {e : TypeId} {sz bytes : Nat} {z : Value} (T : SlT P t e sz bytes z) {B : Nat} (v : Value) {n : Nat} {xs : List Value} (hs : a.eval s = v) (hown : w.ownsRow B e sz v n xs)
    {vx : Value} {m : Nat} {news : List Value} (hx : a.eval x = vx) (hsl : Sl w sz vx m news) (h1 : ∀ u ∈ news, u.oneCell' = true)
    (h63 : n + m ≤ maxLen) (hbytes : (n + m) * bytes ≤ 140737488355328) (hB : B ≤ w.heap.size) (k : Nat) (ys : List Value) (hk : n + m = k) (hys : xs ++ news = ys)
    (h : ∀ v' w', w'.ownsRow B e sz v' k ys → w.grownBy w' v.ownBlock → (v'.ownBlock = v.ownBlock ∨ v'.ownBlock = some w.heap.size) → wpList P ops Q rest (a.put o.dst v') w') : wpList P ops Q (o :: rest) a w := by
  subst hk
  subst hys
  obtain ⟨i, hi, hz, hsz, hby⟩ := T.hi
  rcases hsl.2 with ⟨rfl, rfl⟩ | ⟨b, off, cap, rfl, _, hc⟩ | ⟨ad, cap, rfl, rfl⟩
  · have hn : news = [] := List.eq_nil_of_length_eq_zero (by simpa using hsl.1)
    subst hn
    refine wpList_append_own_none hgd s x t ho B e i sz T.ht hi v n xs hs hown hx (h v w ?_ ⟨rfl, rfl, rfl, Nat.le_refl _, fun _ _ _ => rfl⟩ (.inl rfl))
    simpa using hown
  · refine wpList_append_own_at w hgd s x t ho B e i z sz bytes T.ht hi hz hsz hby T.hz T.pos v n xs hs hown ⟨b, off, none⟩ m cap news hx hsl.1 ?_ h1 h63 hbytes hB fun v' w' h1 h2 _ h4 => h v' w' h1 h2 h4
    intro j u hu
    rw [Addr.add_lit]
    exact hc j u hu
  · have hn : news = [] := List.eq_nil_of_length_eq_zero (by simpa using hsl.1)
    subst hn
    exact wpList_append_own_at w hgd s x t ho B e i z sz bytes T.ht hi hz hsz hby T.hz T.pos v n xs hs hown ad 0 cap [] hx hsl.1 (fun j u hu => by simp at hu) h1 h63 hbytes hB fun v' w' h1 h2 _ h4 => h v' w' h1 h2 h4
end

/-- a slice over a new block that holds just it -/
theorem Sl.new (w : World) (cs : List Value) (e : TypeId) (sz n : Nat) (hl : cs.length = n * sz) : Sl (w.alloc (.cells cs.toArray e)) sz (.slice (some ⟨w.heap.size, 0, none⟩) n n) n cs :=
  ⟨hl, .inr (.inl ⟨_, _, _, rfl, Nat.le_refl _, fun j u hu => newA _ _ _ _ _ _ rfl (by simpa using hu)⟩)⟩

end Go.Kk
