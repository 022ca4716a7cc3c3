import Derived.Test.YtmjdmpapickgkaaZb
namespace Go.Proofs.Ytmjdmpapickgkaa
open Go.RowKit Go.Kk

/-! copies -/
theorem own_frS {w w1 : World} {S : Nat → Prop} {B : Nat} {e : TypeId} {sz : Nat} {v : Value} {n : Nat} {xs : List Value} (h : w.ownsRow B e sz v n xs) (k : Fr S w w1) (hS : ∀ g, v.ownBlock = some g → ¬ S g) : w1.ownsRow B e sz v n xs := by
  refine ⟨h.1, ?_⟩
  rcases h.2 with hn | ⟨g, cap, cur, rfl, hb, hg, r⟩
  · exact .inl hn
  · exact .inr ⟨g, cap, cur, rfl, hb, (k.block g (heap_lt hg) (hS g rfl)).trans hg, r⟩
theorem own_set {w : World} {B : Nat} {e : TypeId} {sz : Nat} {g n cap : Nat} {xs : List Value} (h : w.ownsRow B e sz (.slice (some ⟨g, 0, none⟩) n cap) n xs) (j : Nat) (u : Value) (hj : j < xs.length) :
    (w.setCell ⟨g, j, none⟩ u).ownsRow B e sz (.slice (some ⟨g, 0, none⟩) n cap) n (xs.set j u) := by
  refine ⟨by rw [List.length_set]; exact h.1, .inr ?_⟩
  rcases h.2 with ⟨h0, _⟩ | ⟨g', cap', cur, hv, hb, hg, hc, hm, hs, ht⟩
  · cases h0
  · injection hv with h1 _ h3
    injection h1 with h1
    injection h1 with h1
    subst h1 h3
    refine ⟨g, cap, cur.setIfInBounds j u, rfl, hb, hset_same _ hg, hc, hm, by simp [hs], ?_⟩
    rw [Array.toList_setIfInBounds, List.take_set, ht]
theorem own_cell {w : World} {B : Nat} {e : TypeId} {sz : Nat} {g n cap : Nat} {xs : List Value} (h : w.ownsRow B e sz (.slice (some ⟨g, 0, none⟩) n cap) n xs) (j : Nat) (u : Value) (hu : xs[j]? = some u) : w.cell? ⟨g, j, none⟩ = some u := by
  have := h.cells (g := g) rfl j u hu
  rwa [Addr.add_lit, Nat.zero_add] at this
theorem own_frozen {w : World} {B : Nat} {e : TypeId} {sz : Nat} {g n cap : Nat} {xs : List Value} (h : w.ownsRow B e sz (.slice (some ⟨g, 0, none⟩) n cap) n xs) (j : Nat) : w.frozen? ⟨g, j, none⟩ = false := by
  rcases h.2 with ⟨h0, _⟩ | ⟨g', cap', cur, hv, hb, hg, hc, hm, hs, ht⟩
  · cases h0
  · injection hv with h1 _ h3
    injection h1 with h1
    injection h1 with h1
    subst h1
    exact frozen_of_heap hg
theorem own_empty (w : World) (e : TypeId) (sz : Nat) : (w.alloc (.cells #[] e)).ownsRow w.heap.size e sz (.slice (some ⟨w.heap.size, 0, none⟩) 0 0) 0 [] :=
  ⟨by simp, .inr ⟨w.heap.size, 0, #[], rfl, Nat.le_refl _, heap_alloc_new w _, Nat.le_refl _, Nat.zero_le _, by simp, by simp⟩⟩

theorem slT35 : SlT Try.prog 35 52 3 24 (.agg #[.int .i64 0, .int .i64 0, .int .i64 0]) := by
  obtain ⟨i0, hi, hz0, hz1, hz2⟩ := info_parts (show (Try.prog.info? 52).map (fun i => (i.zero, i.size, i.bytes)) = some (some (.agg #[.int .i64 0, .int .i64 0, .int .i64 0]), 3, 24) by kernel_rfl)
  exact ⟨by kernel_rfl, ⟨i0, hi, hz0, hz1, hz2⟩, by rfl, by omega⟩
theorem slT22 : SlT Try.prog 22 37 6 64 (.agg #[.int .i64 0, .int .i64 0, .int .i64 0, .int .i64 0, .int .i64 0, .slice none 0 0]) := by
  obtain ⟨i0, hi, hz0, hz1, hz2⟩ := info_parts (show (Try.prog.info? 37).map (fun i => (i.zero, i.size, i.bytes)) = some (some (.agg #[.int .i64 0, .int .i64 0, .int .i64 0, .int .i64 0, .int .i64 0, .slice none 0 0]), 6, 64) by kernel_rfl)
  exact ⟨by kernel_rfl, ⟨i0, hi, hz0, hz1, hz2⟩, by rfl, by omega⟩
theorem src_one (l : List Src) : ∀ u ∈ srcCells l, u.oneCell' = true := by
  intro u hu
  obtain ⟨s, _, h⟩ := List.mem_flatMap.1 hu
  simp only [Src.cells, List.mem_cons, List.not_mem_nil, or_false] at h
  rcases h with rfl | rfl | rfl <;> rfl
theorem srcCells_len (l : List Src) : (srcCells l).length = l.length * 3 := by
  unfold srcCells
  induction l with
  | nil => rfl
  | cons a l ih => rw [List.flatMap_cons, List.length_append, ih, List.length_cons, Nat.succ_mul]; simp [Src.cells]; omega
theorem opCells_len (p : List Opn) : (opCells p).length = p.length * 6 := by
  unfold opCells
  induction p with
  | nil => rfl
  | cons a l ih => rw [List.flatMap_cons, List.length_append, ih, List.length_cons, Nat.succ_mul]; simp [Opn.cells]; omega
theorem op_one {w : World} (p : List Opn) (h : ∀ o ∈ p, IsSrcs w o.h o.src) : ∀ u ∈ opCells p, u.oneCell' = true := by
  intro u hu
  obtain ⟨o, ho, h2⟩ := List.mem_flatMap.1 hu
  obtain ⟨bh, ch, hoh⟩ := (h o ho).shape
  simp only [Opn.cells, List.mem_cons, List.not_mem_nil, or_false] at h2
  rcases h2 with rfl | rfl | rfl | rfl | rfl | rfl
  · rfl
  · rfl
  · rfl
  · rfl
  · rfl
  · rw [hoh]; rfl

/-- a list of sources in memory of its own -/
def CloneS (l : List Src) (w : World) (e : Ending) (w' : World) : Prop := ∃ v', e = .returned v' ∧ w'.ownsRow w.heap.size 52 3 v' l.length (srcCells l) ∧ Below w.heap.size w w'
def CloneP (p : List Opn) (w : World) (e : Ending) (w' : World) : Prop := ∃ v', e = .returned v' ∧ w'.ownsRow w.heap.size 37 6 v' p.length (opCells p) ∧ Below w.heap.size w w'

set_option maxHeartbeats 1000000 in
theorem clone63 (l : List Src) (v : Value) (w : World) (hl : IsSrcs w v l) (hlen : l.length ≤ 1000000) : Calls Try.prog 63 #[v] w (CloneS l w) := by
  have he := fun (w : World) a n c => Lib.run_eql_slice_nil (P := Try.prog) w 35 52 a n c 0 0 (show Try.prog.underlying 35 = some (.slice 52) by kernel_rfl)
  rcases hl.2 with ⟨rfl, h0⟩ | ⟨b, off, cap, rfl, hc, hcl⟩ | ⟨a, cap, rfl, h0⟩
  · have : l = [] := List.eq_nil_of_length_eq_zero h0
    subst this
    go_enter Try.func63, Try.ntmps63
    go_wp2
    go_ret
    exact ⟨_, rfl, World.ownsRow_nil _ _ _ _, Below.refl _ _⟩
  · have HS := Lib.hid hl
    clear hl hcl
    go_enter Try.func63, Try.ntmps63
    go_wp2_with (at_builtin; go_must (refine wpList_append_at rfl _ _ _ rfl slT35 (.slice (some ⟨w.heap.size, 0, none⟩) 0 0) rfl (own_empty w 52 3) (vx := .slice (some ⟨b, off, none⟩) l.length cap) (m := l.length) (news := srcCells l) rfl (HS.out.keeps (Keeps.of_below (below_alloc w _))) (src_one l) (by unfold maxLen; omega) (by omega) (by simp) l.length (srcCells l) (by omega) rfl ?_); intro v' w2 hown2 hg2 hat2)
    go_ret
    exact ⟨_, rfl, hown2, (below_alloc w _).grown hg2 (by simp) (fun j hj => by simp [Value.ownBlock] at hj; omega)⟩
  · have HS := Lib.hid hl
    clear hl
    go_enter Try.func63, Try.ntmps63
    go_wp2_with (at_builtin; go_must (refine wpList_append_at rfl _ _ _ rfl slT35 (.slice (some ⟨w.heap.size, 0, none⟩) 0 0) rfl (own_empty w 52 3) (vx := .slice (some a) l.length cap) (m := l.length) (news := srcCells l) rfl (HS.out.keeps (Keeps.of_below (below_alloc w _))) (src_one l) (by unfold maxLen; omega) (by omega) (by simp) l.length (srcCells l) (by omega) rfl ?_); intro v' w2 hown2 hg2 hat2)
    go_ret
    exact ⟨_, rfl, hown2, (below_alloc w _).grown hg2 (by simp) (fun j hj => by simp [Value.ownBlock] at hj; omega)⟩

set_option maxHeartbeats 1000000 in
theorem clone62 (p : List Opn) (v : Value) (w : World) (hp : IsProg w v p) (hlen : p.length ≤ 1000000) : Calls Try.prog 62 #[v] w (CloneP p w) := by
  have he := fun (w : World) a n c => Lib.run_eql_slice_nil (P := Try.prog) w 22 37 a n c 0 0 (show Try.prog.underlying 22 = some (.slice 37) by kernel_rfl)
  have h1 := Lib.hid (op_one p hp.2)
  have hl := hp.1
  clear hp
  rcases hl.2 with ⟨rfl, h0⟩ | ⟨b, off, cap, rfl, hc, hcl⟩ | ⟨a, cap, rfl, h0⟩
  · have : p = [] := List.eq_nil_of_length_eq_zero h0
    subst this
    go_enter Try.func62, Try.ntmps62
    go_wp2
    go_ret
    exact ⟨_, rfl, World.ownsRow_nil _ _ _ _, Below.refl _ _⟩
  · have HS := Lib.hid hl
    clear hl hcl
    go_enter Try.func62, Try.ntmps62
    go_wp2_with (at_builtin; go_must (refine wpList_append_at rfl _ _ _ rfl slT22 (.slice (some ⟨w.heap.size, 0, none⟩) 0 0) rfl (own_empty w 37 6) (vx := .slice (some ⟨b, off, none⟩) p.length cap) (m := p.length) (news := opCells p) rfl (HS.out.keeps (Keeps.of_below (below_alloc w _))) h1.out (by unfold maxLen; omega) (by omega) (by simp) p.length (opCells p) (by omega) rfl ?_); intro v' w2 hown2 hg2 hat2)
    go_ret
    exact ⟨_, rfl, hown2, (below_alloc w _).grown hg2 (by simp) (fun j hj => by simp [Value.ownBlock] at hj; omega)⟩
  · have HS := Lib.hid hl
    clear hl
    go_enter Try.func62, Try.ntmps62
    go_wp2_with (at_builtin; go_must (refine wpList_append_at rfl _ _ _ rfl slT22 (.slice (some ⟨w.heap.size, 0, none⟩) 0 0) rfl (own_empty w 37 6) (vx := .slice (some a) p.length cap) (m := p.length) (news := opCells p) rfl (HS.out.keeps (Keeps.of_below (below_alloc w _))) h1.out (by unfold maxLen; omega) (by omega) (by simp) p.length (opCells p) (by omega) rfl ?_); intro v' w2 hown2 hg2 hat2)
    go_ret
    exact ⟨_, rfl, hown2, (below_alloc w _).grown hg2 (by simp) (fun j hj => by simp [Value.ownBlock] at hj; omega)⟩
end Go.Proofs.Ytmjdmpapickgkaa

namespace Go.Proofs.Ytmjdmpapickgkaa
open Go.RowKit Go.Kk

theorem flatMap_set {α β : Type} (f : α → List β) (k : Nat) (l : List α) (hf : ∀ x ∈ l, (f x).length = k) (i : Nat) (hi : i < l.length) (r : Nat) (hr : r < k) (u : β) (x' : α) (hx : f x' = (f l[i]).set r u) :
    (l.flatMap f).set (i * k + r) u = (l.set i x').flatMap f := by
  induction l generalizing i with
  | nil => simp at hi
  | cons a l ih =>
    have ha := hf a (by simp)
    cases i with
    | zero =>
      simp only [Nat.zero_mul, Nat.zero_add, List.flatMap_cons, List.set_cons_zero]
      rw [List.set_append_left _ _ (by omega)]
      rw [hx]
      rfl
    | succ i =>
      simp only [List.flatMap_cons, List.set_cons_succ]
      rw [List.set_append_right _ _ (by rw [ha, Nat.succ_mul]; omega), ha, show (i + 1) * k + r - k = i * k + r by rw [Nat.succ_mul]; omega]
      rw [ih (fun x hx => hf x (by simp [hx])) i (by simpa using hi) hx]

/-- a program in a row of its own, its sources elsewhere -/
structure OwnP (w : World) (B : Nat) (v : Value) (q : List Opn) : Prop where
  row : w.ownsRow B 37 6 v q.length (opCells q)
  src : ∀ o ∈ q, ∀ w1, Fr (fun k => v.ownBlock = some k) w w1 → IsSrcs w1 o.h o.src

theorem OwnP.prog {w : World} {B : Nat} {v : Value} {q : List Opn} (h : OwnP w B v q) : IsProg w v q := ⟨Sl.of_own h.row, fun o ho => h.src o ho w (Fr.refl _ _)⟩
theorem OwnP.below {w w1 : World} {B : Nat} {v : Value} {q : List Opn} (h : OwnP w B v q) (hb : Below w.heap.size w w1) : OwnP w1 B v q :=
  ⟨own_below h.row hb, fun o ho w2 h2 => h.src o ho w2 ((Fr.of_below hb).trans h2)⟩
theorem OwnP.drewN {w : World} {B : Nat} {v : Value} {q : List Opn} (h : OwnP w B v q) (n : Nat) : OwnP (w.drewN n) B v q := h.below ⟨rfl, rfl, rfl, Nat.le_refl _, fun _ _ => rfl⟩
theorem OwnP.shape {w : World} {B : Nat} {v : Value} {q : List Opn} (h : OwnP w B v q) (hn : 0 < q.length) : ∃ g cap, v = .slice (some ⟨g, 0, none⟩) q.length cap ∧ B ≤ g ∧ g < w.heap.size := by
  rcases h.row.2 with ⟨_, h0⟩ | ⟨g, cap, cur, hv, hb, hg, _⟩
  · omega
  · exact ⟨g, cap, hv, hb, heap_lt hg⟩
theorem OwnP.lt {w : World} {B : Nat} {v : Value} {q : List Opn} (h : OwnP w B v q) {g : Nat} (hg : v.ownBlock = some g) : B ≤ g ∧ g < w.heap.size := h.row.lt g hg

/-- one cell of an operation set -/
theorem OwnP.set {w : World} {B g cap : Nat} {q : List Opn} (h : OwnP w B (.slice (some ⟨g, 0, none⟩) q.length cap) q) (i : Nat) (hi : i < q.length) (r : Nat) (hr : r < 6) (u : Value) (o' : Opn) (hx : o'.cells = q[i].cells.set r u)
    (hs : ∀ w1, Fr (fun k => k = g) (w.setCell ⟨g, i * 6 + r, none⟩ u) w1 → IsSrcs w1 o'.h o'.src) : OwnP (w.setCell ⟨g, i * 6 + r, none⟩ u) B (.slice (some ⟨g, 0, none⟩) q.length cap) (q.set i o') := by
  have hl := opCells_len q
  have h1 := own_set h.row (i * 6 + r) u (by rw [hl]; omega)
  rw [show (opCells q).set (i * 6 + r) u = opCells (q.set i o') from flatMap_set Opn.cells 6 q (fun _ _ => rfl) i hi r hr u o' hx] at h1
  refine ⟨by rw [List.length_set]; exact h1, fun o ho w1 hf => ?_⟩
  have hf' : Fr (fun k => k = g) (w.setCell ⟨g, i * 6 + r, none⟩ u) w1 := hf.mono fun k hk => by simp [Value.ownBlock] at hk; omega
  rcases List.mem_or_eq_of_mem_set ho with hm | rfl
  · refine h.src o hm w1 ?_
    have h2 : Fr (fun k => (Value.slice (some ⟨g, 0, none⟩) q.length cap).ownBlock = some k) w (w.setCell ⟨g, i * 6 + r, none⟩ u) := (Fr.refl (fun k => (Value.slice (some ⟨g, 0, none⟩) q.length cap).ownBlock = some k) w).setCell (a := ⟨g, i * 6 + r, none⟩) rfl u
    exact h2.trans hf
  · exact hs w1 hf'

theorem bare_set (q : List Opn) (i : Nat) (hi : i < q.length) (v : Value) : (q.set i { q[i] with h := v }).map Opn.bare = q.map Opn.bare := by
  apply List.ext_getElem?
  intro j
  simp only [List.getElem?_map, List.getElem?_set]
  by_cases e : i = j
  · subst e; simp [hi, Opn.bare]
  · simp [e]

def CopyPost (p : List Opn) (w : World) (e : Ending) (w' : World) : Prop := ∃ v' q, e = .returned v' ∧ OwnP w' w.heap.size v' q ∧ q.map Opn.bare = p.map Opn.bare ∧ Below w.heap.size w w'

set_option maxRecDepth 100000 in
set_option maxHeartbeats 2000000 in
theorem copied_any (p : List Opn) (v : Value) (w : World) (hl : IsProg w v p) (hlen : Narrow p) : Calls Try.prog 49 #[v] w (CopyPost p w) := by
  have HC := Lib.hid (clone62 p v w hl hlen.1)
  have hlp := hlen.1
  have HS : Hid (∀ o ∈ p, ∀ w1, Below w.heap.size w w1 → IsSrcs w1 o.h o.src) := Lib.hid fun o ho w1 hb => (hl.2 o ho).keeps (Keeps.of_below hb)
  have HN := Lib.hid hlen
  clear hl hlen
  unfold CloneP at HC
  go_enter Try.func49, Try.ntmps49
  go_wp2_with (first | (go_at_call 62; refine HC.out.mono ?_; rintro e w1 ⟨v1, rfl, hown1, h1⟩; obtain ⟨b1, c1, hv1⟩ := (Sl.of_own hown1).shape; subst hv1))
  have HO1 : Hid (OwnP w1 w.heap.size (.slice b1 p.length c1) p) := Lib.hid ⟨hown1, fun o ho w2 hf => HS.out o ho w2 (h1.trans (hf.below h1.size (fun k hk => (hown1.lt k hk).1)))⟩
  clear hown1
  go_loopw [9] (fun vi wr => ∃ (k : Nat) (q : List Opn), k ≤ p.length ∧ vi = .int .i64 k ∧ q.length = p.length ∧ Hid (q.map Opn.bare = p.map Opn.bare) ∧ Hid (OwnP wr w.heap.size (.slice b1 p.length c1) q) ∧ Below w.heap.size w wr) (fun vi _ => p.length - (intOf vi).toNat)
  case atStart => exact ⟨0, p, by omega, rfl, rfl, Lib.hid rfl, HO1, h1⟩
  case round =>
    clear HO1 h1
    obtain ⟨k, q, hk, rfl, hq, HB, HO, hbel⟩ := hrel
    by_cases hlt : k < p.length
    · have hkq : k < q.length := by omega
      obtain ⟨g, cap, hv, hBg, hgw⟩ := HO.out.shape (by omega)
      injection hv with hv1 hv2 hv3
      clear hv2
      subst hv1 hv3
      have hO := HO.out
      rw [← hq] at hO
      have c5 := own_cell hO.row (k * 6 + 5) q[k].h (by rw [opCells_get q k hkq 5 (by omega)]; rfl)
      have hss := hO.src q[k] (List.getElem_mem _)
      have hb6 := bare_time (o := q[k]) (q := p[k]) (by
        have := congrArg (fun l => l[k]?) HB.out
        simpa [hkq, hlt] using this)
      have hsl : q[k].src.length ≤ 1000000 := by rw [hb6.2.2.2.2.2]; exact HN.out.2 p[k] (List.getElem_mem _)
      have HCl := Lib.hid (clone63 q[k].src q[k].h wr (hss wr (Fr.refl _ _)) hsl)
      unfold CloneS at HCl
      -- what the store leaves
      have HF : Hid (∀ (w2 : World) (v2 : Value), w2.ownsRow wr.heap.size 52 3 v2 q[k].src.length (srcCells q[k].src) → Below wr.heap.size wr w2 →
          (∃ u, w2.cell? ⟨g, k * 6 + 5, none⟩ = some u) ∧ w2.frozen? ⟨g, k * 6 + 5, none⟩ = false ∧ ∃ q', q'.length = p.length ∧ q'.map Opn.bare = p.map Opn.bare ∧ OwnP (w2.setCell ⟨g, k * 6 + 5, none⟩ v2) w.heap.size (.slice (some ⟨g, 0, none⟩) p.length c1) q') := Lib.hid fun w2 v2 hown2 hb2 => by
        have hO2 := hO.below hb2
        refine ⟨⟨_, own_cell hO2.row (k * 6 + 5) q[k].h (by rw [opCells_get q k hkq 5 (by omega)]; rfl)⟩, own_frozen hO2.row _, q.set k { q[k] with h := v2 }, by rw [List.length_set]; exact hq, by rw [bare_set q k hkq]; exact HB.out, ?_⟩
        have := hO2.set k hkq 5 (by omega) v2 { q[k] with h := v2 } rfl (fun w3 h3 => by
          refine Sl.of_own (own_frS hown2 (((Fr.refl (fun k => k = g) w2).setCell rfl _).trans h3) fun g2 hg2 e => ?_)
          have := (hown2.lt g2 hg2).1
          omega)
        rwa [hq] at this
      clear HO hO hss hb6 hsl
      obtain ⟨bh, hoh⟩ : ∃ x : Value, q[k].h = x := ⟨_, rfl⟩
      rw [hoh] at c5 HCl
      clear hoh
      have HQ := Lib.hid (And.intro hq hkq)
      generalize q[k].src = src at *
      clear hq hkq
      go_wp2_with (first | (go_at_call 63; refine HCl.out.mono ?_; rintro e w2 ⟨v2, rfl, hown2, h2⟩; obtain ⟨⟨ux, hx⟩, hfz, q', hq', hB', hO'⟩ := HF.out w2 v2 hown2 h2; have HO' := Lib.hid hO'; have HB' := Lib.hid hB'; clear hB' hO'; obtain ⟨b2, c2, hv2⟩ := (Sl.of_own hown2).shape; subst hv2))
      go_roundw
      case rel => exact ⟨k + 1, q', by omega, by go_num, hq', HB', HO', (hbel.trans (h2.mono hbel.size)).setCell (by exact hBg) _⟩
      case measure => simp [intOf]; omega
    · obtain rfl : k = p.length := by omega
      go_wp2
      go_ret
      exact ⟨_, q, rfl, HO.out, HB.out, hbel⟩
end Go.Proofs.Ytmjdmpapickgkaa

namespace Go.Proofs.Ytmjdmpapickgkaa
open Go.RowKit Go.Kk

/-- a program in memory of its own: the row, and a row for each list of sources, no two in one block -/
structure OwnS (w : World) (B : Nat) (v : Value) (q : List Opn) : Prop where
  row : w.ownsRow B 37 6 v q.length (opCells q)
  srcs : ∀ i (h : i < q.length), w.ownsRow B 52 3 q[i].h q[i].src.length (srcCells q[i].src)
  main : ∀ i (h : i < q.length), q[i].h.ownBlock = none ∨ q[i].h.ownBlock ≠ v.ownBlock
  apart : ∀ i j (hi : i < q.length) (hj : j < q.length), i ≠ j → q[i].h.ownBlock = none ∨ q[i].h.ownBlock ≠ q[j].h.ownBlock

theorem OwnS.ownP {w : World} {B : Nat} {v : Value} {q : List Opn} (h : OwnS w B v q) : OwnP w B v q :=
  ⟨h.row, fun o ho w1 hf => by
    obtain ⟨i, hi, rfl⟩ := List.getElem_of_mem ho
    refine Sl.of_own (own_frS (h.srcs i hi) hf fun g hg e => ?_)
    rcases h.main i hi with h1 | h1
    · rw [h1] at hg; cases hg
    · exact h1 (by rw [hg, e])⟩
theorem own_grown {w w1 : World} {row : Option Nat} {B : Nat} {e : TypeId} {sz : Nat} {v : Value} {n : Nat} {xs : List Value} (h : w.ownsRow B e sz v n xs) (hg : w.grownBy w1 row) (hr : ∀ k, row = some k → w.heap.size ≤ k) : w1.ownsRow B e sz v n xs :=
  h.kept hg (by
    cases hv : v.ownBlock with
    | none => exact .inl rfl
    | some g => exact .inr fun e => by have := (h.lt g hv).2; have := hr g e.symm; omega)
theorem own_base {w : World} {B B' : Nat} {e : TypeId} {sz : Nat} {v : Value} {n : Nat} {xs : List Value} (h : w.ownsRow B e sz v n xs) (hB : B' ≤ B) : w.ownsRow B' e sz v n xs := own_mono h hB

/-- one operation more: wr: before; w5: behind -/
theorem OwnS.push {wr w4 w5 : World} {B : Nat} {v v' : Value} {q : List Opn} (h : OwnS wr B v q) (o : Opn)
    (hsz : wr.heap.size ≤ w4.heap.size) (h4 : ∀ k, k < wr.heap.size → w4.heap[k]? = wr.heap[k]?) (hg : w4.grownBy w5 v.ownBlock) (hrow : w5.ownsRow B 37 6 v' (q.length + 1) (opCells (q ++ [o])))
    (hat : v'.ownBlock = v.ownBlock ∨ ∃ g, v'.ownBlock = some g ∧ w4.heap.size ≤ g)
    (ho4 : w4.ownsRow B 52 3 o.h o.src.length (srcCells o.src)) (hnew : ∀ g, o.h.ownBlock = some g → wr.heap.size ≤ g) : OwnS w5 B v' (q ++ [o]) := by
  have vlt : ∀ g, v.ownBlock = some g → g < wr.heap.size := fun g hg => (h.row.lt g hg).2
  have new4 : ∀ g, o.h.ownBlock = some g → g < w4.heap.size := fun g hg => (ho4.lt g hg).2
  have old : ∀ i (hi : i < q.length), ∀ g, q[i].h.ownBlock = some g → g < wr.heap.size := fun i hi g hg => ((h.srcs i hi).lt g hg).2
  have ne_v : o.h.ownBlock = none ∨ o.h.ownBlock ≠ v.ownBlock := by
    cases he : o.h.ownBlock with
    | none => exact .inl rfl
    | some g => exact .inr fun e => by have := hnew g he; have := vlt g e.symm; omega
  have ne_v' : o.h.ownBlock = none ∨ o.h.ownBlock ≠ v'.ownBlock := by
    rcases hat with e | ⟨g, e, hg⟩
    · rw [e]; exact ne_v
    · cases he : o.h.ownBlock with
      | none => exact .inl rfl
      | some g' => exact .inr fun e2 => by rw [e] at e2; injection e2 with e2; have := new4 g' he; omega
  have kept : ∀ i (hi : i < q.length), w5.ownsRow B 52 3 q[i].h q[i].src.length (srcCells q[i].src) := fun i hi => by
    have h1 : w4.ownsRow B 52 3 q[i].h q[i].src.length (srcCells q[i].src) := by
      refine ⟨(h.srcs i hi).1, ?_⟩
      rcases (h.srcs i hi).2 with hn | ⟨g, cap, cur, hv, hb, hg, r⟩
      · exact .inl hn
      · exact .inr ⟨g, cap, cur, hv, hb, (h4 g (heap_lt hg)).trans hg, r⟩
    exact h1.kept hg (h.main i hi)
  refine ⟨by rw [List.length_append]; exact hrow, fun i hi => ?_, fun i hi => ?_, fun i j hi hj hne => ?_⟩
  · by_cases e : i < q.length
    · rw [List.getElem_append_left e]; exact kept i e
    · have : i = q.length := by simp at hi; omega
      subst this
      simp only [List.getElem_append_right (Nat.le_refl _), Nat.sub_self, List.getElem_singleton]
      exact ho4.kept hg ne_v
  · by_cases e : i < q.length
    · rw [List.getElem_append_left e]
      rcases hat with e2 | ⟨g, e2, hg⟩
      · rw [e2]; exact h.main i e
      · cases he : q[i].h.ownBlock with
        | none => exact .inl rfl
        | some g' => exact .inr fun e3 => by rw [e2] at e3; injection e3 with e3; have := old i e g' he; omega
    · have : i = q.length := by simp at hi; omega
      subst this
      simp only [List.getElem_append_right (Nat.le_refl _), Nat.sub_self, List.getElem_singleton]
      exact ne_v'
  · by_cases ei : i < q.length
    · by_cases ej : j < q.length
      · rw [List.getElem_append_left ei, List.getElem_append_left ej]; exact h.apart i j ei ej hne
      · have : j = q.length := by simp at hj; omega
        subst this
        rw [List.getElem_append_left ei]
        simp only [List.getElem_append_right (Nat.le_refl _), Nat.sub_self, List.getElem_singleton]
        cases he : q[i].h.ownBlock with
        | none => exact .inl rfl
        | some g' => exact .inr fun e3 => by have := hnew g' e3.symm; have := old i ei g' he; omega
    · have : i = q.length := by simp at hi; omega
      subst this
      have ej : j < q.length := by simp at hj; omega
      rw [List.getElem_append_left ej]
      simp only [List.getElem_append_right (Nat.le_refl _), Nat.sub_self, List.getElem_singleton]
      cases he : o.h.ownBlock with
      | none => exact .inl rfl
      | some g' => exact .inr fun e3 => by have := hnew g' he; have := old j ej g' e3.symm; omega

theorem own_old {w w1 : World} {B : Nat} {e : TypeId} {sz : Nat} {v : Value} {n : Nat} {xs : List Value} (h : w.ownsRow B e sz v n xs) (hk : ∀ k, k < w.heap.size → w1.heap[k]? = w.heap[k]?) : w1.ownsRow B e sz v n xs := by
  refine ⟨h.1, ?_⟩
  rcases h.2 with hn | ⟨g, cap, cur, rfl, hb, hg, r⟩
  · exact .inl hn
  · exact .inr ⟨g, cap, cur, rfl, hb, (hk g (heap_lt hg)).trans hg, r⟩
theorem own_empty' (W : World) (e : TypeId) (sz b : Nat) (hb : b = W.heap.size) (B : Nat) (hB : B ≤ b) : (W.alloc (.cells #[] e)).ownsRow B e sz (.slice (some ⟨b, 0, none⟩) 0 0) 0 [] := by
  subst hb; exact own_mono (own_empty W e sz) hB
theorem sl_newN (W : World) (b : Nat) (hb : b = W.heap.size) (cs : Array Value) (xs : List Value) (hx : cs.toList = xs) (e : TypeId) (sz : Nat) (hl : xs.length = sz) : Sl (W.alloc (.cells cs e)) sz (.slice (some ⟨b, 0, none⟩) 1 1) 1 xs := by
  subst hb hx
  have := Sl.new W cs.toList e sz 1 (by rw [hl]; omega)
  simpa using this

def CopySPost (p : List Opn) (w : World) (e : Ending) (w' : World) : Prop := ∃ v' q, e = .returned v' ∧ OwnS w' w.heap.size v' q ∧ q.map Opn.bare = p.map Opn.bare ∧ Below w.heap.size w w'

set_option maxRecDepth 100000 in
set_option maxHeartbeats 2000000 in
theorem refCopied_any (p : List Opn) (v : Value) (w : World) (hl : IsProg w v p) (hlen : Narrow p) : Calls Try.prog 47 #[v] w (CopySPost p w) := by
  obtain ⟨bs, cq, hval⟩ := hl.1.shape
  subst hval
  have hlp := hlen.1
  have HL := Lib.hid hl
  have HN := Lib.hid hlen
  clear hl hlen
  go_enter Try.func47, Try.ntmps47
  go_wp2
  go_loopw [3, 4] (fun vo vi wr => ∃ (k : Nat) (q : List Opn), k ≤ p.length ∧ vi = .int .i64 k ∧ Hid (q.length = k) ∧ Hid (q.map Opn.bare = (p.take k).map Opn.bare) ∧ Hid (OwnS wr w.heap.size vo q) ∧ Below w.heap.size w wr) (fun _ vi _ => p.length - (intOf vi).toNat)
  case atStart => exact ⟨0, [], by omega, rfl, Lib.hid rfl, Lib.hid (by simp), Lib.hid ⟨World.ownsRow_nil _ _ _ _, fun i h => by simp at h, fun i h => by simp at h, fun i j h => by simp at h⟩, Below.refl _ _⟩
  case round =>
    obtain ⟨k, q, hk, rfl, HQ, HB, HO, hbel⟩ := hrel
    by_cases hlt : k < p.length
    · obtain ⟨b1, off, cp1, hv, hc, hcl⟩ := Sl.at HL.out.1 (by omega)
      injection hv with hv1 _ hv3
      subst hv1 hv3
      obtain ⟨c0, c1, c2, c3, c4, c5⟩ := op_cells (hcl.keeps (Keeps.of_below hbel)) k hlt
      have hs := (HL.out.2 p[k] (List.getElem_mem _)).keeps (Keeps.of_below hbel)
      have hsl := HN.out.2 p[k] (List.getElem_mem _)
      have HTk : Hid (∀ o', o'.bare = p[k].bare → (q ++ [o']).map Opn.bare = (p.take (k + 1)).map Opn.bare) := Lib.hid fun o' ho => by
        rw [List.take_succ_eq_append_getElem hlt, List.map_append, List.map_append, HB.out]; simp [ho]
      clear hcl HB
      generalize p[k] = o at *
      obtain ⟨t, a0, a1, u, kd, oh, src⟩ := o
      simp only at *
      obtain ⟨bh, ch, hoh⟩ := hs.shape
      subst hoh
      have HS := Lib.hid hs
      clear hs
      have hsz := hbel.size
      have c5x := Keeps.of_below (below_alloc2 wr (.cells #[.int .i64 t, .int .i64 a0, .int .i64 a1, .int .i64 u, .int .i64 kd, .slice bh src.length ch] 37) (.cells #[] 52)) _ _ c5
      have tok := Lib.hid trivial
      go_wp2_with (first
        | (have _t := tok; at_builtin; go_must (refine wpList_append_at rfl _ _ _ rfl slT35 (.slice (some ⟨wr.heap.size + 1, 0, none⟩) 0 0) rfl (own_empty' _ 52 3 (wr.heap.size + 1) (by simp) w.heap.size (by omega)) (vx := .slice bh src.length ch) (m := src.length) (news := srcCells src) rfl (HS.out.keeps (Keeps.of_below (below_alloc2 wr _ _))) (src_one src) (by unfold maxLen; omega) (by omega) (by simp; omega) src.length (srcCells src) (by omega) rfl ?_); intro v2 w2 hown2 hg2 hat2; obtain ⟨b2, c2', hv2⟩ := (Sl.of_own hown2).shape; subst hv2; have hbx : w2.heap[wr.heap.size]? = some (.cells #[.int .i64 t, .int .i64 a0, .int .i64 a1, .int .i64 u, .int .i64 kd, .slice bh src.length ch] 37 (0, 0)) := (hg2.block _ (by simp; omega) (by simp [Value.ownBlock])).trans (by rw [heap_alloc_old _ _ (by simp)]; exact heap_alloc_new wr _); have x5 := cell_of_heap (i := 5) hbx rfl; have f5 := frozen_of_heap (i := 5) hbx; have hbx3 := hset_same (i := 5) (.slice b2 src.length c2') hbx; have y0 := cell_of_heap (i := 0) hbx3 rfl; have y1 := cell_of_heap (i := 1) hbx3 rfl; have y2 := cell_of_heap (i := 2) hbx3 rfl; have y3 := cell_of_heap (i := 3) hbx3 rfl; have y4 := cell_of_heap (i := 4) hbx3 rfl; have y5 := cell_of_heap (i := 5) hbx3 rfl; have H4 : Hid (∀ k, k < wr.heap.size → (w2.setCell ⟨wr.heap.size, 5, none⟩ (.slice b2 src.length c2')).heap[k]? = wr.heap[k]?) := Lib.hid (fun k hk => by rw [Below.heap_setCell _ _ _ _ (by simp; omega), hg2.block k (by simp; omega) (by simp [Value.ownBlock]; omega), heap_alloc_old _ _ (by simp; omega), heap_alloc_old _ _ hk]); have HX2 := Lib.hid (And.intro hown2 (And.intro hg2 hat2)); have hs2 : wr.heap.size + 2 ≤ w2.heap.size := (by have := hg2.size; simp at this; omega); clear tok _t hbx hbx3 hown2 hg2 hat2)
        | (at_builtin; go_must (refine wpList_append_at rfl _ _ _ rfl slT22 _ rfl ((own_old HO.out.row H4.out).alloc _) (vx := .slice (some ⟨w2.heap.size, 0, none⟩) 1 1) (m := 1) (news := [.int .i64 t, .int .i64 a0, .int .i64 a1, .int .i64 u, .int .i64 kd, .slice b2 src.length c2']) rfl (sl_newN _ _ (by simp [World.setCell]) _ _ rfl 37 6 rfl) (by intro x hx; simp only [List.mem_cons, List.not_mem_nil, or_false] at hx; rcases hx with rfl | rfl | rfl | rfl | rfl | rfl <;> rfl) (by have := HQ.out; unfold maxLen; omega) (by have := HQ.out; omega) (by simp [World.setCell]; omega) _ _ rfl rfl ?_); intro v5 w5 hown5 hg5 hat5))
      have hq := HQ.out
      have hO5 : Hid (OwnS w5 w.heap.size v5 (q ++ [⟨t, a0, a1, u, kd, .slice b2 src.length c2', src⟩])) := Lib.hid (HO.out.push (w4 := (w2.setCell ⟨wr.heap.size, 5, none⟩ (.slice b2 src.length c2')).alloc (.cells #[.int .i64 t, .int .i64 a0, .int .i64 a1, .int .i64 u, .int .i64 kd, .slice b2 src.length c2'] 37)) _ (by simp [World.setCell]; omega)
        (fun k hk => by rw [heap_alloc_old _ _ (by simp [World.setCell]; omega), H4.out k hk]) hg5 (by
          have : opCells (q ++ [⟨t, a0, a1, u, kd, .slice b2 src.length c2', src⟩]) = opCells q ++ [.int .i64 t, .int .i64 a0, .int .i64 a1, .int .i64 u, .int .i64 kd, .slice b2 src.length c2'] := by unfold opCells; rw [List.flatMap_append]; rfl
          rw [this]; exact hown5) (hat5.imp id fun e => ⟨_, e, Nat.le_refl _⟩)
        ((own_frS HX2.out.1 ((Fr.refl (fun k => k = wr.heap.size) w2).setCell (a := ⟨wr.heap.size, 5, none⟩) rfl _) fun g hg e => by
          rcases HX2.out.2.2 with h | h <;> rw [hg] at h <;> simp [Value.ownBlock] at h <;> omega).alloc _)
        (fun g hg => by
          rcases HX2.out.2.2 with h | h <;> rw [hg] at h <;> simp [Value.ownBlock] at h <;> omega))
      have hb5 : Below w.heap.size w w5 := by
        have h1 : Below w.heap.size w w2 := (hbel.trans ((below_alloc2 wr _ _).mono hsz)).grown HX2.out.2.1 (by simp; omega) (fun j hj => by simp [Value.ownBlock] at hj; omega)
        have h2 := (h1.setCell (p := ⟨wr.heap.size, 5, none⟩) hsz (.slice b2 src.length c2')).alloc (by simp [World.setCell]; omega) (.cells #[.int .i64 t, .int .i64 a0, .int .i64 a1, .int .i64 u, .int .i64 kd, .slice b2 src.length c2'] 37)
        exact h2.grown hg5 (by simp [World.setCell]; omega) (fun j hj => (HO.out.row.lt j hj).1)
      have hql : Hid ((q ++ [(⟨t, a0, a1, u, kd, .slice b2 src.length c2', src⟩ : Opn)]).length = k + 1) := Lib.hid (by simp [hq])
      clear hq
      go_roundw
      case rel => exact ⟨k + 1, _, by omega, by go_num, hql, Lib.hid (HTk.out ⟨t, a0, a1, u, kd, .slice b2 src.length c2', src⟩ rfl), hO5, hb5⟩
      case measure => simp [intOf]; omega
    · obtain rfl : k = p.length := by omega
      have HB2 := HB.out
      rw [List.take_length] at HB2
      have HB2 := Lib.hid HB2
      go_wp2
      go_ret
      exact ⟨_, q, rfl, HO.out, HB2.out, hbel⟩
end Go.Proofs.Ytmjdmpapickgkaa
