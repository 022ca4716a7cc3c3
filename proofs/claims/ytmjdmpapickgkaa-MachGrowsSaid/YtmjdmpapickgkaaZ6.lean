import Derived.Test.YtmjdmpapickgkaaZ2
import Derived.Maps.Keyed
import Derived.Maps.Own
import Derived.Maps.OwnRows
import Derived.WideKeyEntry
import Derived.DeepKeys4
import Derived.Deep.QuietTactic
import Derived.BigQuiet
import Derived.Deep.DeepFit
/- A map of slices that the call makes and fills by 'm[k] = append(m[k], x)': what its slices own, key by key. No program in sight. -/
namespace Go.Kk
open Go.RowKit Go.MapKept
open Go.WideElems (Fit rd rg rd_key)
open Go.WideMaps (KeyLaw)
open Go.Maps (Keyed)
open Go.ChangeMaps (setBlock heap_setBlock_same heap_setBlock_other putKey notKey)

def I64k (l : List Int) : List Value := l.map (.int .i64 ·)

/-- block b is a map whose keys' slices own the lists L, in rows from base on, no two in one row -/
def MGrp (P : Program) (k e : TypeId) (w : World) (base b n : Nat) (L : Value → List Int) : Prop :=
  ∃ es clock, w.heap[b]? = some (.map es clock) ∧ Stamped es clock ∧ es.size ≤ n ∧ (∀ x ∈ es.toList, ∃ l, keyOf P k x.key = some l) ∧
    (∀ x ∈ es.toList, w.ownsRow base e 1 x.val (L x.key).length (I64k (L x.key))) ∧ (∀ key, (∀ x ∈ es.toList, x.key ≠ key) → L key = []) ∧
    (∀ x ∈ es.toList, ∀ y ∈ es.toList, x.key ≠ y.key → x.val.ownBlock = none ∨ x.val.ownBlock ≠ y.val.ownBlock) ∧ b < base

variable {P : Program} {k e : TypeId} {w : World} {base b n : Nat} {L : Value → List Int}

theorem MGrp.made (w : World) (P : Program) (k e : TypeId) (L : Value → List Int) (hL : ∀ q, L q = []) : MGrp P k e (w.alloc (.map #[] 0)) (w.heap.size + 1) w.heap.size 0 L :=
  ⟨#[], 0, heap_alloc_new w _, stamped_empty 0, Nat.le_refl _, by simp, by simp, fun q _ => hL q, by simp, by omega⟩

theorem MGrp.kept {w' : World} (h : MGrp P k e w base b n L) (hg : w.grownBy w' none) : MGrp P k e w' base b n L := by
  obtain ⟨es, clock, hb, hs, hn, hk, ho, hno, hap, hlt⟩ := h
  refine ⟨es, clock, (hg.block b (heap_lt hb) (by simp)).trans hb, hs, hn, hk, fun x hx => (ho x hx).kept hg ?_, hno, hap, hlt⟩
  cases x.val.ownBlock <;> simp
theorem MGrp.alloc (h : MGrp P k e w base b n L) (o : Obj) : MGrp P k e (w.alloc o) base b n L := h.kept (World.grownBy_alloc _ _ _)
theorem MGrp.drew (h : MGrp P k e w base b n L) : MGrp P k e w.drew base b n L := h.kept ⟨rfl, rfl, rfl, Nat.le_refl _, fun _ _ _ => rfl⟩
theorem MGrp.drewN (h : MGrp P k e w base b n L) (q : Nat) : MGrp P k e (w.drewN q) base b n L := h.kept ⟨rfl, rfl, rfl, Nat.le_refl _, fun _ _ _ => rfl⟩
theorem MGrp.lt (h : MGrp P k e w base b n L) : b < w.heap.size := by obtain ⟨es, clock, hb, _⟩ := h; exact heap_lt hb

theorem fit0 {es : Array MapEntry} {clock : Nat} (hs : Stamped es clock) (hn : es.size ≤ maxLen) (hk : ∀ x ∈ es.toList, ∃ l, keyOf P k x.key = some l) : Fit P k (fun _ => some ((.nil : DataW Unit), ([] : List MemPlace))) es clock :=
  ⟨hn, hs, fun x hx => by obtain ⟨l, hl⟩ := hk x hx; exact ⟨(l, .nil), by simp [rd, hl]⟩⟩

/-- 'm[k]' -/
theorem MGrp.look {t E : TypeId} {key : Value} {kl : Lit} (h : MGrp P k e w base b n L) (K : Keyed P k) (ht : P.underlying t = some (.map k E)) (hz : (zeroValue E).run P w = .ok (.slice none 0 0) w) (hn : n ≤ maxLen) (hkey : keyOf P k key = some kl) :
    ∃ v, (Instr.lookup t (.map (some b)) key false).run P w = .ok v w ∧ w.ownsRow base e 1 v (L key).length (I64k (L key)) := by
  obtain ⟨es, clock, hb, hs, hsz, hk, ho, hno, hap, hlt⟩ := h
  rcases Maps.fit_look false K ht hz hb (fit0 hs (by omega) hk) hkey with ⟨hrun, hn, _⟩ | ⟨e0, y, hm, h3, hrun, _⟩
  · refine ⟨_, hrun, ?_⟩
    rw [hno key hn]
    exact World.ownsRow_nil _ _ _ _
  · refine ⟨_, hrun, ?_⟩
    have := ho e0 hm
    rw [h3] at this
    exact this

theorem eq_of_key {es : List MapEntry} (h : es.Pairwise (fun x y => x.key ≠ y.key)) {x y : MapEntry} (hx : x ∈ es) (hy : y ∈ es) (e : x.key = y.key) : x = y := by
  induction es with
  | nil => cases hx
  | cons a l ih =>
    obtain ⟨h1, h2⟩ := List.pairwise_cons.1 h
    rcases List.mem_cons.1 hx with rfl | hx'
    · rcases List.mem_cons.1 hy with rfl | hy'
      · rfl
      · exact absurd e (h1 y hy')
    · rcases List.mem_cons.1 hy with rfl | hy'
      · exact absurd e.symm (h1 x hx')
      · exact ih h2 hx' hy'

/-- 'm[k]', in every world of the same memory -/
theorem MGrp.lookN {t E : TypeId} {key : Value} {kl : Lit} (h : MGrp P k e w base b n L) (K : Keyed P k) (ht : P.underlying t = some (.map k E)) (hz : ∀ u : World, (zeroValue E).run P u = .ok (.slice none 0 0) u) (hn : n ≤ maxLen) (hkey : keyOf P k key = some kl) :
    ∃ v, (∀ q, (Instr.lookup t (.map (some b)) key false).run P (w.drewN q) = .ok v (w.drewN q)) ∧ w.ownsRow base e 1 v (L key).length (I64k (L key)) := by
  obtain ⟨es, clock, hb, hs, hsz, hk, ho, hno, hap, hlt⟩ := h
  rcases Maps.fit_look false K ht (hz w) hb (fit0 hs (by omega) hk) hkey with ⟨hrun, hn, _⟩ | ⟨e0, y, hm, h3, hrun, _⟩
  · refine ⟨.slice none 0 0, fun q => ?_, ?_⟩
    · rcases Maps.fit_look (w := w.drewN q) false K ht (hz _) hb (fit0 hs (by omega) hk) hkey with ⟨hrun, _, _⟩ | ⟨e0, y, hm, h3, _, _⟩
      · exact hrun
      · exact absurd h3 (hn e0 hm)
    · rw [hno key hn]
      exact World.ownsRow_nil _ _ _ _
  · refine ⟨e0.val, fun q => ?_, ?_⟩
    · rcases Maps.fit_look (w := w.drewN q) false K ht (hz _) hb (fit0 hs (by omega) hk) hkey with ⟨_, hn, _⟩ | ⟨e1, y, hm1, h31, hrun1, _⟩
      · exact absurd h3 (hn e0 hm)
      · have := eq_of_key ((stamped_iff es clock).1 hs).2.2 hm1 hm (h31.trans h3.symm)
        subst this
        exact hrun1
    · have := ho e0 hm
      rw [h3] at this
      exact this

theorem grown_setBlock (w : World) (b : Nat) (o : Obj) (hb : ∃ es clock, w.heap[b]? = some (.map es clock)) : w.grownBy (setBlock w b o) (some b) := by
  obtain ⟨_, _, hb⟩ := hb
  exact ⟨rfl, rfl, rfl, by simp [setBlock], fun i _ hi => heap_setBlock_other hb _ (fun e1 => hi (by rw [e1]))⟩

open Classical in
/-- 'm[k] = append(m[k], x)', between its two ends -/
theorem MGrp.entry {t E : TypeId} {key : Value} {kl : Lit} (h : MGrp P k e w base b n L) (KL : KeyLaw P k) (ht : P.underlying t = some (.map k E)) (hz : ∀ u : World, (zeroValue E).run P u = .ok (.slice none 0 0) u) (hn : n < maxLen) (hkey : keyOf P k key = some kl) :
    ∃ v st w1, (Instr.mapEntry t (.map (some b)) key).run P w = .ok (.tuple #[v, goInt st]) w1 ∧ w.grownBy w1 (some b) ∧ w1.heap.size = w.heap.size ∧ (∃ es clock, w1.heap[b]? = some (.map es clock)) ∧ w1.ownsRow base e 1 v (L key).length (I64k (L key)) ∧
      ∀ (w2 : World) (v' : Value) (x : Int), w1.grownBy w2 v.ownBlock → w2.ownsRow base e 1 v' ((L key).length + 1) (I64k (L key) ++ [.int .i64 x]) → (v'.ownBlock = v.ownBlock ∨ v'.ownBlock = some w1.heap.size) →
        ∃ w3, (Instr.entryStore t (.map (some b)) (goInt st) v').run P w2 = .ok () w3 ∧ w2.grownBy w3 (some b) ∧ MGrp P k e w3 base b (n + 1) (fun q => if q = key then L key ++ [x] else L q) := by
  obtain ⟨es, clock, hb, hs, hsz, hk, ho, hno, hap, hlt⟩ := h
  have F := fit0 hs (Nat.le_of_lt (Nat.lt_of_le_of_lt hsz hn)) hk
  have hbw := heap_lt hb
  obtain ⟨v0, st, es1, clock1, hrun, hwho, hstore⟩ := WideElems.entry_then_store KL ht hz hb F hkey
  have hg1 := grown_setBlock w b (.map es1 clock1) ⟨_, _, hb⟩
  have ne_of : ∀ {u : World} {v : Value} {m : Nat} {xs : List Value}, u.ownsRow base e 1 v m xs → v.ownBlock = none ∨ v.ownBlock ≠ some b := fun {u v m xs} hr => by
    cases hv : v.ownBlock with
    | none => exact .inl rfl
    | some g => exact .inr fun e1 => by have := (hr.lt g hv).1; cases e1; omega
  have hv0 : w.ownsRow base e 1 v0 (L key).length (I64k (L key)) := by
    rcases hwho with ⟨e0, hm, h3, rfl⟩ | ⟨hn, rfl⟩
    · rw [← h3]; exact ho e0 hm
    · rw [hno key hn]; exact World.ownsRow_nil _ _ _ _
  have hoth : ∀ x ∈ es.toList, x.key ≠ key → x.val.ownBlock = none ∨ x.val.ownBlock ≠ v0.ownBlock := by
    intro x hx hne
    rcases hwho with ⟨e0, hm, h3, rfl⟩ | ⟨hn, rfl⟩
    · exact hap x hx e0 hm (by rw [h3]; exact hne)
    · cases x.val.ownBlock <;> simp [Value.ownBlock]
  refine ⟨v0, st, setBlock w b (.map es1 clock1), hrun, hg1, by simp [setBlock], ⟨_, _, heap_setBlock_same hb _⟩, hv0.kept hg1 (ne_of hv0), fun w2 v' xn hg hown' hloc => ?_⟩
  have hv0b := ne_of hv0
  have hb2 : w2.heap[b]? = some (.map es1 clock1) := (hg.block b (by simp [setBlock]; exact hbw) (by
    rcases hv0b with h | h
    · rw [h]; simp
    · exact fun e => h e.symm)).trans (heap_setBlock_same hb _)
  obtain ⟨es', clock', hst, hmu⟩ := hstore w2 v' hb2
  obtain ⟨es'', clock'', hrun', F', hput, _, _, hwho'⟩ := Maps.fit_store (R' := fun _ => some ((.nil : DataW Unit), ([] : List MemPlace))) (val := v') (Keyed.of_law KL) ht hb F (Nat.lt_of_le_of_lt hsz hn) (fun _ _ _ _ h => h) hkey rfl
  rw [hmu] at hrun'
  obtain ⟨rfl, rfl⟩ : es' = es'' ∧ clock' = clock'' := by
    have h1 : setBlock w b (.map es' clock') = setBlock w b (.map es'' clock'') := by simpa using hrun'
    have h2 := congrArg (fun u : World => u.heap[b]?) h1
    simp only [heap_setBlock_same hb] at h2
    simpa using h2
  have hg3 := grown_setBlock w2 b (.map es' clock') ⟨_, _, hb2⟩
  refine ⟨_, hst, hg3, es', clock', heap_setBlock_same hb2 _, F'.stamped, ?_, fun x hx => ?_, fun x hx => ?_, fun q hq => ?_, fun x hx y hy hne => ?_, hlt⟩
  · have e1 : es'.size = ((es'.toList.map (rg P k (fun _ => some ((.nil : DataW Unit), ([] : List MemPlace))))).foldr DataW.insert []).length := by rw [length_sorted]; simp
    rw [e1, hput]
    unfold putKey
    rw [length_insert]
    have e2 := List.length_filter_le (notKey kl) ((es.toList.map (rg P k (fun _ => some ((.nil : DataW Unit), ([] : List MemPlace))))).foldr DataW.insert [])
    rw [length_sorted] at e2
    simp at e2
    omega
  · obtain ⟨y, hy⟩ := F'.reads x hx
    exact ⟨_, rd_key hy⟩
  · rcases hwho' x hx with ⟨hx0, hxk⟩ | ⟨hxk, hxv⟩
    · dsimp only
      rw [if_neg hxk]
      exact (((ho x hx0).kept hg1 (ne_of (ho x hx0))).kept hg (hoth x hx0 hxk)).kept hg3 (ne_of (ho x hx0))
    · dsimp only
      rw [if_pos hxk, hxv, List.length_append]
      have h5 := hown'.kept hg3 (ne_of hown')
      simpa [I64k] using h5
  · have hin : ∀ (l : Lit), (l = kl ∨ (l ≠ kl ∧ ∃ x ∈ es.toList, keyOf P k x.key = some l)) → ∃ x' ∈ es'.toList, keyOf P k x'.key = some l := by
      intro l hl
      have hm : (l, (.nil : DataW Unit)) ∈ putKey kl (.nil : DataW Unit) ((es.toList.map (rg P k (fun _ => some ((.nil : DataW Unit), ([] : List MemPlace))))).foldr DataW.insert []) := by
        unfold putKey
        rw [ChangeMaps.mem_insert_iff]
        rcases hl with rfl | ⟨hne, x0, hx0, hxl⟩
        · exact .inl rfl
        · refine .inr (List.mem_filter.2 ⟨(WideShapes.sorted_perm _).mem_iff.2 (List.mem_map.2 ⟨x0, hx0, ?_⟩), (Maps.notKey_iff ((Keyed.of_law KL).key hkey)).2 hne⟩)
          exact WideElems.rg_of (y := (l, .nil)) (by simp [rd, hxl])
      rw [← hput] at hm
      obtain ⟨x', hx', he⟩ := List.mem_map.1 ((WideShapes.sorted_perm _).mem_iff.1 hm)
      obtain ⟨y, hy⟩ := F'.reads x' hx'
      rw [WideElems.rg_of hy] at he
      exact ⟨x', hx', by rw [rd_key hy]; rw [he]⟩
    by_cases e1 : q = key
    · exfalso
      obtain ⟨x', hx', hk'⟩ := hin kl (.inl rfl)
      exact hq x' hx' (by rw [e1]; exact KL.inj hk' hkey)
    · dsimp only
      rw [if_neg e1]
      refine hno q fun x0 hx0 e2 => ?_
      obtain ⟨l, hl⟩ := hk x0 hx0
      obtain ⟨x', hx', hk'⟩ := hin l (.inr ⟨fun e3 => e1 (by rw [← e2]; exact KL.inj hl (e3 ▸ hkey)), x0, hx0, hl⟩)
      exact hq x' hx' (by rw [← e2]; exact KL.inj hk' hl)
  · have old_new : ∀ x ∈ es.toList, x.key ≠ key → x.val.ownBlock = none ∨ x.val.ownBlock ≠ v'.ownBlock := by
      intro x hx hne
      rcases hloc with h1 | h1
      · rw [h1]
        exact hoth x hx hne
      · cases hx' : x.val.ownBlock with
        | none => exact Or.inl rfl
        | some gx =>
          have := ((ho x hx).lt gx hx').2
          refine Or.inr (fun e1 => ?_)
          rw [h1] at e1
          simp [setBlock] at e1
          omega
    rcases hwho' x hx with ⟨hx0, hxk⟩ | ⟨hxk, hxv⟩ <;> rcases hwho' y hy with ⟨hy0, hyk⟩ | ⟨hyk, hyv⟩
    · exact hap x hx0 y hy0 hne
    · rw [hyv]
      exact old_new x hx0 hxk
    · rw [hxv]
      exact (dis_swap (old_new y hy0 hyk))
    · exact absurd (hxk.trans hyk.symm) hne

/-- the way back -/
def MBack (P : Program) (t k e : TypeId) (w1 : World) (base b n : Nat) (key : Value) (l : List Int) (L : Value → List Int) (v st : Value) : Prop :=
  ∀ (w2 : World) (v' : Value) (x : Int) (L' : Value → List Int), w1.grownBy w2 v.ownBlock → w2.ownsRow base e 1 v' (l.length + 1) (I64k l ++ [.int .i64 x]) → (v'.ownBlock = v.ownBlock ∨ v'.ownBlock = some w1.heap.size) →
    L' key = l ++ [x] → (∀ q, q ≠ key → L' q = L q) → ∃ w3, (Instr.entryStore t (.map (some b)) st v').run P w2 = .ok () w3 ∧ w2.grownBy w3 (some b) ∧ Keeps w2 w3 ∧ MGrp P k e w3 base b (n + 1) L'

theorem keeps_map {w w1 : World} {b : Nat} (hb : ∃ es clock, w.heap[b]? = some (.map es clock)) (hg : w.grownBy w1 (some b)) : Keeps w w1 := by
  obtain ⟨es, clock, hb⟩ := hb
  intro a u hu
  refine hg.cell hu fun e1 => ?_
  injection e1 with e1
  rw [← e1] at hb
  simp [World.cell?, hb] at hu

open Classical in
theorem MGrp.entry' {t E : TypeId} {key : Value} {kl : Lit} (h : MGrp P k e w base b n L) (KL : KeyLaw P k) (ht : P.underlying t = some (.map k E)) (hz : ∀ u : World, (zeroValue E).run P u = .ok (.slice none 0 0) u) (hn : n < maxLen) (hkey : keyOf P k key = some kl) :
    ∃ v st w1, (Instr.mapEntry t (.map (some b)) key).run P w = .ok (.tuple #[v, st]) w1 ∧ w.grownBy w1 (some b) ∧ Keeps w w1 ∧ w1.ownsRow base e 1 v (L key).length (I64k (L key)) ∧ MBack P t k e w1 base b n key (L key) L v st := by
  obtain ⟨v, st, w1, h1, h2, h3, hm, h4, h5⟩ := h.entry KL ht hz hn hkey
  refine ⟨v, goInt st, w1, h1, h2, keeps_map (by obtain ⟨es, clock, hb, _⟩ := h; exact ⟨es, clock, hb⟩) h2, h4, fun w2 v' x L' g1 g2 g3 e1 e2 => ?_⟩
  obtain ⟨w3, q1, q2, q3⟩ := h5 w2 v' x g1 g2 g3
  have hbv : some b ≠ v.ownBlock := fun hv => by
    have := (h4.lt b hv.symm).1
    obtain ⟨es, clock, _, _, _, _, _, _, _, hlt⟩ := h
    omega
  refine ⟨w3, q1, q2, keeps_map ?_ q2, ?_⟩
  · obtain ⟨es, clock, hm⟩ := hm
    exact ⟨es, clock, (g1.block b (heap_lt hm) hbv).trans hm⟩
  · have : (fun q => if q = key then L key ++ [x] else L q) = L' := by
      funext q
      by_cases hq : q = key
      · subst hq; simp [e1]
      · rw [if_neg hq]; exact (e2 q hq).symm
    rw [← this]
    exact q3

variable {ops : Array Oper} {rest : List Oper} {o : Oper} {a : Act} {Q : Exit → Act → World → Prop}
theorem wpList_mapEntry (hgd : o.guard = none) (m x : Operand) (t : TypeId) (ho : o.op = Op.mapEntry t m x) {b : Nat} {key v : Value} {w1 : World} (hm : a.eval m = .map (some b)) (hx : a.eval x = key)
    (hrun : (Instr.mapEntry t (.map (some b)) key).run P w = .ok v w1) (h : wpList P ops Q rest (a.put o.dst v) w1) : wpList P ops Q (o :: rest) a w := by
  refine wpList_plain hgd fun K' hK' => ?_
  unfold Oper.wp
  simp [execOp, ho, hm, hx, hrun, Result.andThen]
  exact hK' _ _ h
theorem wpList_entry (hgd : o.guard = none) (m x : Operand) (t : TypeId) (ho : o.op = Op.mapEntry t m x) {E : TypeId} {key : Value} {kl : Lit} (h : MGrp P k e w base b n L) (KL : KeyLaw P k) (ht : P.underlying t = some (.map k E))
    (hz : ∀ u : World, (zeroValue E).run P u = .ok (.slice none 0 0) u) (hn : n < maxLen) (hm : a.eval m = .map (some b)) (hx : a.eval x = key) (hkey : keyOf P k key = some kl)
    (hK : ∀ v st w1, w.grownBy w1 (some b) → Keeps w w1 → w1.ownsRow base e 1 v (L key).length (I64k (L key)) → MBack P t k e w1 base b n key (L key) L v st → wpList P ops Q rest (a.put o.dst (.tuple #[v, st])) w1) : wpList P ops Q (o :: rest) a w := by
  obtain ⟨v, st, w1, h1, h2, h3, h4, h5⟩ := h.entry' KL ht hz hn hkey
  exact wpList_mapEntry hgd m x t ho hm hx h1 (hK v st w1 h2 h3 h4 h5)
theorem wpList_back (hgd : o.guard = none) (m s x : Operand) (t : TypeId) (ho : o.op = Op.entryStore t m s x) {w1 : World} {key v st v' : Value} {l : List Int} {y : Int} (hB : MBack P t k e w1 base b n key l L v st) (hm : a.eval m = .map (some b)) (hs : a.eval s = st) (hx : a.eval x = v')
    (hg : w1.grownBy w v.ownBlock) (hown : w.ownsRow base e 1 v' (l.length + 1) (I64k l ++ [.int .i64 y])) (hloc : v'.ownBlock = v.ownBlock ∨ v'.ownBlock = some w1.heap.size) (L' : Value → List Int) (e1 : L' key = l ++ [y]) (e2 : ∀ q, q ≠ key → L' q = L q)
    (hK : ∀ w3, w.grownBy w3 (some b) → Keeps w w3 → MGrp P k e w3 base b (n + 1) L' → wpList P ops Q rest (a.put o.dst undef) w3) : wpList P ops Q (o :: rest) a w := by
  obtain ⟨w3, q1, q2, q3, q4⟩ := hB w v' y L' hg hown hloc e1 e2
  refine wpList_plain hgd fun K' hK' => ?_
  unfold Oper.wp
  simp [execOp, ho, hm, hs, hx, q1, Result.andThen]
  exact hK' _ _ (hK w3 q2 q3 q4)
theorem wpList_entryStore (hgd : o.guard = none) (m s x : Operand) (t : TypeId) (ho : o.op = Op.entryStore t m s x) {b : Nat} {vs v : Value} {w1 : World} (hm : a.eval m = .map (some b)) (hs : a.eval s = vs) (hx : a.eval x = v)
    (hrun : (Instr.entryStore t (.map (some b)) vs v).run P w = .ok () w1) (h : wpList P ops Q rest (a.put o.dst undef) w1) : wpList P ops Q (o :: rest) a w := by
  refine wpList_plain hgd fun K' hK' => ?_
  unfold Oper.wp
  simp [execOp, ho, hm, hs, hx, hrun, Result.andThen]
  exact hK' _ _ h
end Go.Kk

/- Plain facts of a valid program. No walk. -/
namespace Go.Proofs.Ytmjdmpapickgkaa
open Go.RowKit Go.Kk

structure OpOk (n : Nat) (o : Opn) : Prop where
  t : -100000 ≤ o.time ∧ o.time ≤ 100000
  x : -1000 ≤ o.c0 ∧ o.c0 ≤ 1000
  y : -1000 ≤ o.c1 ∧ o.c1 ≤ 1000
  u : 0 ≤ o.unit ∧ o.unit ≤ 3
  k : 1 ≤ o.kind ∧ o.kind ≤ 7
  len : (o.src.length : Int) = need o.kind
  src : ∀ s ∈ o.src, (s.op = -1 ∧ 0 ≤ s.val ∧ s.val ≤ 10006 ∧ s.hops = 0) ∨ (0 ≤ s.op ∧ s.op < n ∧ s.val = 0 ∧ 0 ≤ s.hops ∧ s.hops ≤ 12)

theorem bt_iff {a b c : Int} : bt a b c = true ↔ a ≤ b ∧ b ≤ c := by simp [bt]
theorem need_pos {k : Int} (h : ¬ need k = 0) : 1 ≤ k ∧ k ≤ 7 := by
  unfold need at h
  split at h
  · omega
  · split at h
    · omega
    · split at h
      · omega
      · exact absurd rfl h

theorem OpOk.of {n : Nat} {o : Opn} (h : okOp n o = true) : OpOk n o := by
  unfold okOp at h
  simp only [Bool.and_eq_true, Bool.not_eq_true', decide_eq_true_eq, decide_eq_false_iff_not, bt_iff, List.any_eq_false] at h
  obtain ⟨⟨⟨⟨h1, h2⟩, h3, h4⟩, h5, h6⟩, h7⟩ := h
  refine ⟨h3, h5, h6, h4, need_pos h1, h2, fun s hs => ?_⟩
  have := h7 s hs
  simp only [Bool.not_eq_false] at this
  unfold okSrc at this
  split at this
  · rename_i e
    simp only [Bool.and_eq_true, decide_eq_true_eq, bt_iff] at this
    exact .inl ⟨e, this.1.1, this.1.2, this.2⟩
  · simp only [Bool.and_eq_true, decide_eq_true_eq, bt_iff] at this
    exact .inr ⟨this.1.1.1, by omega, this.1.2, this.2.1, this.2.2⟩

theorem okProg_op {p : List Opn} (h : okProg p = true) (i : Nat) (hi : i < p.length) : OpOk p.length p[i] := by
  unfold okProg at h
  simp only [Bool.and_eq_true, Bool.not_eq_true', List.any_eq_false, Bool.not_eq_false] at h
  exact OpOk.of (h.2 _ (List.getElem_mem hi))
theorem okProg_len {p : List Opn} (h : okProg p = true) : p.length ≤ 4000 := by
  unfold okProg at h
  simp only [Bool.and_eq_true, decide_eq_true_eq] at h
  exact h.1
theorem need_le (k : Int) : 0 ≤ need k ∧ need k ≤ 3 := by unfold need; split <;> (try split) <;> (try split) <;> omega
theorem OpOk.len3 {n : Nat} {o : Opn} (h : OpOk n o) : o.src.length ≤ 3 := by have := h.len; have := need_le o.kind; omega

theorem sl_new1 (W : World) (b : Nat) (hb : b = W.heap.size) (x : Value) (e : TypeId) : Sl (W.alloc (.cells #[x] e)) 1 (.slice (some ⟨b, 0, none⟩) 1 1) 1 [x] := by
  subst hb; exact Sl.new W [x] e 1 1 rfl
theorem own_below {w w1 : World} {B : Nat} {e : TypeId} {sz : Nat} {v : Value} {n : Nat} {xs : List Value} (h : w.ownsRow B e sz v n xs) (hb : Below w.heap.size w w1) : w1.ownsRow B e sz v n xs :=
  h.kept (row := none) ⟨hb.os, hb.tape, hb.output, hb.size, fun k hk _ => hb.block k hk⟩ (by cases v.ownBlock <;> simp)
theorem own_drewN {w : World} {B : Nat} {e : TypeId} {sz : Nat} {v : Value} {n : Nat} {xs : List Value} (h : w.ownsRow B e sz v n xs) (q : Nat) : (w.drewN q).ownsRow B e sz v n xs := own_below h ⟨rfl, rfl, rfl, Nat.le_refl _, fun _ _ => rfl⟩
/-- 'out = append(out, y)', y in a new box -/
theorem wpList_push {P : Program} {W : World} {ops : Array Oper} {rest : List Oper} {o : Oper} {a : Act} {Q : Exit → Act → World → Prop} {y : Value} {e : TypeId} (hgd : o.guard = none) (s x : Operand) (t : TypeId) (ho : o.op = .call { callee := .builtin .append, args := #[s, x], argTypes := #[t, t] })
    {bytes : Nat} {z : Value} (T : SlT P t e 1 bytes z) {B : Nat} (v : Value) {n : Nat} {xs : List Value} (hs : a.eval s = v) (hown : W.ownsRow B e 1 v n xs) {b : Nat} (hx : a.eval x = .slice (some ⟨b, 0, none⟩) 1 1) (hb : b = W.heap.size) (hy : y.oneCell' = true)
    (hn : n + 1 ≤ 1000000) (hby : bytes ≤ 1000000) {A : World} {B0 : Nat} (hbel : Below B0 A W) (hB0 : B0 ≤ B) (hB : B ≤ W.heap.size) (ys : List Value) (hys : xs ++ [y] = ys)
    (h : ∀ v' w', w'.ownsRow B e 1 v' (n + 1) ys → Below B0 A w' → wpList P ops Q rest (a.put o.dst v') w') : wpList P ops Q (o :: rest) a (W.alloc (.cells #[y] e)) := by
  have h1 : (n + 1) * bytes ≤ 1000000 * 1000000 := Nat.mul_le_mul hn hby
  refine wpList_append_at hgd s x t ho T v hs (hown.alloc _) hx (sl_new1 W b hb y e) (by simpa using hy) (by unfold maxLen; omega) (by omega) (by simp; omega) (n + 1) ys rfl hys fun v' w' ho' hg _ => h v' w' ho' ?_
  exact (hbel.alloc (by omega) _).grown hg (by simp; omega) fun j hj => by have := (hown.lt j hj).1; omega
/-! places, and what meets -/
instance : Inhabited Opn := ⟨⟨0, 0, 0, 0, 0, .nilFunc, []⟩⟩
/-- operation i -/
def opn (p : List Opn) (i : Nat) : Opn := p[i]!
theorem opn_eq {p : List Opn} {i : Nat} (h : i < p.length) : opn p i = p[i] := by unfold opn; rw [getElem!_pos _ i h]
def Opn.spot (o : Opn) : Int × Int × Int × Int := (o.time, o.c0, o.c1, o.unit)
/-- the operations before k at the place and time of o -/
def grp (p : List Opn) (k : Nat) (o : Opn) : List Nat := (List.range k).filter fun j => decide ((opn p j).spot = o.spot)
/-- the first that meets another, and the next one that it meets -/
def meets (p : List Opn) : Option Nat := (List.range p.length).find? fun i => decide (1 < (grp p p.length (opn p i)).length)
def meetV (p : List Opn) : Value := match meets p with
  | some i => .tuple #[.int .i64 i, .int .i64 ((grp p p.length (opn p i))[1]! : Nat), .bool true]
  | none => .tuple #[.int .i64 0, .int .i64 0, .bool false]

def keyM (o : Opn) : Value := .agg #[.int .i64 o.time, .int .i64 o.c0, .int .i64 o.c1, .int .i64 o.unit]
def keyR (o : Opn) : Value := .agg #[.int .i64 o.time, .int .i64 o.unit, .int .i64 o.c0, .int .i64 o.c1]
theorem keyM_iff (a b : Opn) : keyM a = keyM b ↔ a.spot = b.spot := by simp [keyM, Opn.spot]
theorem keyR_iff (a b : Opn) : keyR a = keyR b ↔ a.spot = b.spot := by simp only [keyR, Opn.spot, Value.agg.injEq, Array.mk.injEq, List.cons.injEq, Value.int.injEq, Prod.mk.injEq, true_and, and_true]; constructor <;> (rintro ⟨h1, h2, h3, h4⟩; simp [*])

open Classical in
/-- what the map holds behind k rounds -/
noncomputable def grpL (kf : Opn → Value) (p : List Opn) (k : Nat) (q : Value) : List Int := ((List.range k).filter fun j => decide (kf (opn p j) = q)).map fun (x : Nat) => (x : Int)
theorem grpL_zero (kf : Opn → Value) (p : List Opn) (q : Value) : grpL kf p 0 q = [] := by simp [grpL]
theorem grpL_same (kf : Opn → Value) (p : List Opn) (k : Nat) (q : Value) (h : kf (opn p k) = q) : grpL kf p (k + 1) q = grpL kf p k q ++ [(k : Int)] := by
  unfold grpL
  rw [List.range_succ, List.filter_append, List.map_append]
  congr 1
  simp [h]
theorem grpL_other (kf : Opn → Value) (p : List Opn) (k : Nat) (q : Value) (h : q ≠ kf (opn p k)) : grpL kf p (k + 1) q = grpL kf p k q := by
  unfold grpL
  rw [List.range_succ, List.filter_append, List.map_append]
  have h' : ¬ kf (opn p k) = q := fun e => h e.symm
  simp [h']
theorem grpL_len (kf : Opn → Value) (p : List Opn) (k : Nat) (q : Value) : (grpL kf p k q).length ≤ k := by
  unfold grpL
  rw [List.length_map]
  exact Nat.le_trans (List.length_filter_le _ _) (by simp)
theorem grpL_key (kf : Opn → Value) (hk : ∀ a b, kf a = kf b ↔ a.spot = b.spot) (p : List Opn) (k : Nat) (o : Opn) : grpL kf p k (kf o) = (grp p k o).map fun (x : Nat) => (x : Int) := by
  unfold grpL grp
  congr 1
  apply List.filter_congr
  intro j _
  exact decide_eq_decide.2 (hk _ _)

theorem meets_none {p : List Opn} (h : ∀ i, i < p.length → (grp p p.length (opn p i)).length ≤ 1) : meets p = none := by
  unfold meets
  rw [List.find?_eq_none]
  intro i hi
  have := h i (by simpa using hi)
  simp; omega
theorem meets_some {p : List Opn} {i : Nat} (hi : i < p.length) (h : 1 < (grp p p.length (opn p i)).length) (hb : ∀ j, j < i → (grp p p.length (opn p j)).length ≤ 1) : meets p = some i := by
  unfold meets
  rw [List.find?_eq_some_iff_getElem]
  refine ⟨by simpa using h, i, by simpa using hi, by simp, fun j hj => ?_⟩
  have := hb j hj
  simp; omega
/-- the head of the first group that is not single is its own first -/
theorem meets_head {p : List Opn} {i : Nat} (hi : i < p.length) (h : 1 < (grp p p.length (opn p i)).length) (hb : ∀ j, j < i → (grp p p.length (opn p j)).length ≤ 1) : (grp p p.length (opn p i))[0]! = i := by
  have hne : 0 < (grp p p.length (opn p i)).length := by omega
  have hmem : i ∈ grp p p.length (opn p i) := by simp [grp, hi]
  have h0 : (grp p p.length (opn p i))[0] ∈ grp p p.length (opn p i) := List.getElem_mem hne
  have hs : (grp p p.length (opn p i)).Pairwise (· < ·) := List.Pairwise.filter _ List.pairwise_lt_range
  have h0' : (opn p (grp p p.length (opn p i))[0]).spot = (opn p i).spot := by
    have := (List.mem_filter.1 h0).2
    simpa using this
  have hg : grp p p.length (opn p (grp p p.length (opn p i))[0]) = grp p p.length (opn p i) := by
    show (List.range p.length).filter (fun j => decide ((opn p j).spot = (opn p (grp p p.length (opn p i))[0]).spot)) = _
    rw [h0']
    rfl
  have hle : ¬ (grp p p.length (opn p i))[0] < i := fun hlt => by
    have := hb _ hlt
    rw [hg] at this
    omega
  have hge : (grp p p.length (opn p i))[0] ≤ i := by
    obtain ⟨n, hn, e⟩ := List.getElem_of_mem hmem
    by_cases n0 : n = 0
    · subst n0; omega
    · have := List.pairwise_iff_getElem.1 hs 0 n hne hn (by omega)
      omega
  rw [getElem!_pos _ 0 hne]
  omega
end Go.Proofs.Ytmjdmpapickgkaa

namespace Go.Proofs.Ytmjdmpapickgkaa
open Go.RowKit Go.Kk Go.WideMaps

theorem laidOutT : laidOutB Try.prog = true := by kernel_rfl
theorem lawM : KeyLaw Try.prog 69 := deep_law_laid laidOutT (m := 4) (by omega) (of_decide_eq_true (by kernel_rfl)) (by kernel_rfl) (by rw [show Try.prog.underlying 69 = _ from Try.underlying69])
theorem lawR : KeyLaw Try.prog 77 := deep_law_laid laidOutT (m := 4) (by omega) (of_decide_eq_true (by kernel_rfl)) (by kernel_rfl) (by rw [show Try.prog.underlying 77 = _ from Try.underlying77])
theorem zero25 (u : World) : (zeroValue 25).run Try.prog u = .ok (.slice none 0 0) u := by kernel_rfl
theorem slT25 : SlT Try.prog 25 3 1 8 (.int .i64 0) := by
  obtain ⟨i0, hi, hz0, hz1, hz2⟩ := info_parts (show (Try.prog.info? 3).map (fun i => (i.zero, i.size, i.bytes)) = some (some (.int .i64 0), 1, 8) by kernel_rfl)
  exact ⟨by kernel_rfl, ⟨i0, hi, hz0, hz1, hz2⟩, by rfl, by omega⟩
theorem wf64 {n : Int} (h : -9223372036854775808 ≤ n ∧ n ≤ 9223372036854775807) : (Lit.int .i64 n).wf = true := WalkArith.wf_i64 (by omega)
theorem lits3 (m : Nat) (n : Int) (h : (Lit.int .i64 n).wf = true) : Try.prog.keyLits (m + 1) 3 [.int .i64 n] = some [.int .i64 n] := by
  simp [Program.keyLits, show Try.prog.underlying 3 = some (.int .i64) from Try.underlying3, h]
theorem lits34 (m : Nat) (a b : Int) (ha : (Lit.int .i64 a).wf = true) (hb : (Lit.int .i64 b).wf = true) : Try.prog.keyLits (m + 2) 34 [.int .i64 a, .int .i64 b] = some [.int .i64 a, .int .i64 b] := by
  unfold Program.keyLits
  rw [show Try.prog.underlying 34 = some (.array 2 3) by kernel_rfl]
  simp [show Try.prog.cellsOf 34 = 2 by kernel_rfl, show Try.prog.cellsOf 3 = 1 by kernel_rfl, List.range_succ, lits3 m a ha, lits3 m b hb]

theorem keyOfM (o : Opn) (n : Nat) (h : OpOk n o) : ∃ kl, keyOf Try.prog 69 (keyM o) = some kl := by
  obtain ⟨t, c0, c1, u, k, hh, src⟩ := o
  have h1 := h.t; have h2 := h.x; have h3 := h.y; have h4 := h.u
  simp only at h1 h2 h3 h4
  have w1 := wf64 (n := t) (by omega)
  have w2 := wf64 (n := c0) (by omega)
  have w3 := wf64 (n := c1) (by omega)
  have w4 := wf64 (n := u) (by omega)
  have hk : Try.prog.keyType 69 = true := by kernel_rfl
  have hsz : ∃ m, Try.prog.types.size + 1 = m + 4 := ⟨Try.prog.types.size - 3, by have : 4 ≤ Try.prog.types.size := of_decide_eq_true (by kernel_rfl); omega⟩
  obtain ⟨m, hm⟩ := hsz
  have hf : (keyM ⟨t, c0, c1, u, k, hh, src⟩).formed Try.prog 69 = true := by
    simp [keyM, Value.formed, Try.underlying69]
    kernel_rfl
  unfold keyOf
  rw [Try.underlying69]
  simp only [hk, hf, Bool.and_self, if_true, hm]
  have h69 : Try.prog.keyLits (m + 4) 69 (keyM ⟨t, c0, c1, u, k, hh, src⟩).cells.toList = some [.int .i64 t, .int .i64 c0, .int .i64 c1, .int .i64 u] := by
    unfold Program.keyLits
    rw [Try.underlying69]
    simp [keyM, Value.cells, show Try.prog.cellsOf 69 = 4 by kernel_rfl, show Try.prog.cellsOf 34 = 2 by kernel_rfl, show Try.prog.cellsOf 3 = 1 by kernel_rfl, lits3 (m + 2) t w1, lits34 (m + 1) c0 c1 w2 w3, lits3 (m + 2) u w4]
  rw [h69]
  exact ⟨_, rfl⟩
theorem keyOfR (o : Opn) (n : Nat) (h : OpOk n o) : ∃ kl, keyOf Try.prog 77 (keyR o) = some kl := by
  obtain ⟨t, c0, c1, u, k, hh, src⟩ := o
  have h1 := h.t; have h2 := h.x; have h3 := h.y; have h4 := h.u
  simp only at h1 h2 h3 h4
  have w1 := wf64 (n := t) (by omega)
  have w2 := wf64 (n := c0) (by omega)
  have w3 := wf64 (n := c1) (by omega)
  have w4 := wf64 (n := u) (by omega)
  have hk : Try.prog.keyType 77 = true := by kernel_rfl
  have hsz : ∃ m, Try.prog.types.size + 1 = m + 4 := ⟨Try.prog.types.size - 3, by have : 4 ≤ Try.prog.types.size := of_decide_eq_true (by kernel_rfl); omega⟩
  obtain ⟨m, hm⟩ := hsz
  have hf : (keyR ⟨t, c0, c1, u, k, hh, src⟩).formed Try.prog 77 = true := by
    simp [keyR, Value.formed, Try.underlying77]
    kernel_rfl
  unfold keyOf
  rw [Try.underlying77]
  simp only [hk, hf, Bool.and_self, if_true, hm]
  have h77 : Try.prog.keyLits (m + 4) 77 (keyR ⟨t, c0, c1, u, k, hh, src⟩).cells.toList = some [.int .i64 t, .int .i64 u, .int .i64 c0, .int .i64 c1] := by
    unfold Program.keyLits
    rw [Try.underlying77]
    simp [keyR, Value.cells, show Try.prog.cellsOf 77 = 4 by kernel_rfl, show Try.prog.cellsOf 34 = 2 by kernel_rfl, show Try.prog.cellsOf 3 = 1 by kernel_rfl, lits3 (m + 2) t w1, lits34 (m + 1) c0 c1 w2 w3, lits3 (m + 2) u w4]
  rw [h77]
  exact ⟨_, rfl⟩
end Go.Proofs.Ytmjdmpapickgkaa

namespace Go.Proofs.Ytmjdmpapickgkaa
open Go.RowKit Go.Kk Go.WideMaps

set_option maxHeartbeats 2000000 in
theorem meet_any (p : List Opn) (v : Value) (w : World) (hl : IsProg w v p) (hok : okProg p = true) :
    Calls Try.prog 36 #[v] w fun e w' => e = .returned (meetV p) ∧ Below w.heap.size w w' := by
  obtain ⟨bs, cq, hval⟩ := hl.1.shape
  subst hval
  have hlp := okProg_len hok
  have hmm := @run_makeMap Try.prog
  go_enter Try.func36, Try.ntmps36
  go_wp2
  go_loopw [15] (fun i wr => ∃ k : Nat, k ≤ p.length ∧ i = .int .i64 k ∧ Below w.heap.size w wr ∧ MGrp Try.prog 69 3 wr (w.heap.size + 1) w.heap.size k (grpL keyM p k)) (fun i _ => p.length - (intOf i).toNat)
  case atStart => exact ⟨0, by omega, rfl, below_alloc _ _, MGrp.made _ _ _ _ _ (grpL_zero _ _)⟩
  case round =>
    obtain ⟨k, hk, rfl, hbel, hgr⟩ := hrel
    by_cases hlt : k < p.length
    · obtain ⟨b1, off, cp1, hv, hc, hcl⟩ := Sl.at hl.1 (by omega)
      injection hv with hv1 _ hv3
      subst hv1 hv3
      have hcl' := hcl.keeps (Keeps.of_below hbel)
      obtain ⟨c0, c1, c2, c3, c4, c5⟩ := op_cells hcl' k hlt
      have ho := opn_eq hlt
      have hkey := keyOfM (opn p k) p.length (ho ▸ okProg_op hok k hlt)
      obtain ⟨kl, hkey⟩ := hkey
      have hgl := grpL_len keyM p k
      have hs1 := grpL_same keyM p k _ rfl
      have hs2 := grpL_other keyM p k
      rw [← ho] at c0 c1 c2 c3 c4 c5
      obtain ⟨bh, ch, hoh⟩ := (hl.2 p[k] (List.getElem_mem _)).shape
      rw [← ho] at hoh
      have HL := Lib.hid hl
      clear hl hcl hcl' ho
      have hgl' := hgl (keyM (opn p k))
      clear hgl
      have hkm : keyM (opn p k) = .agg #[.int .i64 (opn p k).time, .int .i64 (opn p k).c0, .int .i64 (opn p k).c1, .int .i64 (opn p k).unit] := rfl
      simp only [hkm] at hkey hs1 hs2 hgl'
      clear hkm
      generalize opn p k = o at *
      obtain ⟨t, a0, a1, u, kd, oh, src⟩ := o
      simp only at *
      subst hoh
      have HS := Lib.hid (And.intro hs1 hs2)
      clear hs1 hs2
      go_wp2_with (first
        | (refine wpList_entry (key := .agg #[.int .i64 t, .int .i64 a0, .int .i64 a1, .int .i64 u]) rfl _ _ _ rfl (((hgr.alloc _).alloc _).alloc _) lawM Try.underlying67 zero25 (by unfold maxLen; omega) rfl rfl hkey ?_; intro v st w1 hg1 hk1 hown1 hback)
        | (at_builtin; go_must (refine wpList_append_at rfl _ _ _ rfl slT25 v rfl hown1 (vx := .slice (some ⟨wr.heap.size + 1 + 1, 0, none⟩) 1 1) (m := 1) (news := [.int .i64 k]) rfl ((sl_new1 _ _ (by simp) _ _).keeps hk1) (by simp [Value.oneCell']) (by have := hgl' ; unfold maxLen; omega) (by have := hgl' ; omega) (by have h := hg1.size; simp at h; have := hbel.size; omega) _ _ rfl rfl ?_); intro v' w2 hown2 hg2 hat2)
        | (refine wpList_back rfl _ _ _ _ rfl hback rfl rfl rfl hg2 hown2 hat2 (grpL keyM p (k + 1)) HS.out.1 HS.out.2 ?_; intro w3 hg3 hk3 hgr3))
      have hb3 : Below w.heap.size w w3 := by
        have q1 : Below w.heap.size w w1 := (((hbel.alloc hbel.size _).alloc (by have := hbel.size; simp; omega) _).alloc (by have := hbel.size; simp; omega) _).grown hg1 (by have := hbel.size; simp; omega) (by rintro j hj; injection hj with hj; omega)
        have q2 : Below w.heap.size w w2 := q1.grown hg2 q1.size (fun j hj => by have := (hown1.lt j hj).1; omega)
        exact q2.grown hg3 q2.size (by rintro j hj; injection hj with hj; omega)
      clear hg1 hk1 hown1 hback hown2 hg2 hat2 hg3 hk3 hgr hbel
      go_roundw
      case rel => exact ⟨k + 1, by omega, by go_num, hb3, hgr3⟩
      case measure => simp [intOf]; omega
    · obtain rfl : k = p.length := by omega
      clear hlt
      go_wp2
      obtain ⟨w0, hw0⟩ : ∃ x, x = wr := ⟨wr, rfl⟩
      subst hw0
      go_loopw [38] (fun i wr => ∃ k : Nat, k ≤ p.length ∧ i = .int .i64 k ∧ Below w.heap.size w wr ∧ MGrp Try.prog 69 3 wr (w.heap.size + 1) w.heap.size p.length (grpL keyM p p.length) ∧ Hid (∀ j, j < k → (grp p p.length (opn p j)).length ≤ 1)) (fun i _ => p.length - (intOf i).toNat)
      case atStart => exact ⟨0, by omega, rfl, hbel, hgr, Lib.hid fun j hj => by omega⟩
      case round =>
        clear hbel hgr
        obtain ⟨k, hk, rfl, hbel, hgr, HF⟩ := hrel
        by_cases hlt : k < p.length
        · obtain ⟨b1, off, cp1, hv, hc, hcl⟩ := Sl.at hl.1 (by omega)
          injection hv with hv1 _ hv3
          subst hv1 hv3
          have hcl' := hcl.keeps (Keeps.of_below hbel)
          obtain ⟨c0, c1, c2, c3, c4, c5⟩ := op_cells hcl' k hlt
          have ho := opn_eq hlt
          obtain ⟨kl, hkey⟩ := keyOfM (opn p k) p.length (ho ▸ okProg_op hok k hlt)
          obtain ⟨lv, hrun, hown⟩ := (hgr.alloc (.cells #[.int .i64 (opn p k).time, .int .i64 (opn p k).c0, .int .i64 (opn p k).c1, .int .i64 (opn p k).unit, .int .i64 (opn p k).kind, (opn p k).h] 37)).look (Maps.Keyed.of_law lawM) Try.underlying67 (zero25 _) (by unfold maxLen; omega) hkey
          rw [grpL_key keyM keyM_iff] at hown
          rw [← ho] at c0 c1 c2 c3 c4 c5
          obtain ⟨bh, ch, hoh⟩ := (hl.2 p[k] (List.getElem_mem _)).shape
          rw [← ho] at hoh
          have HG : Hid (∀ x, x = (grp p p.length (opn p k)) → (x.length ≤ 1 → ∀ j, j < k + 1 → (grp p p.length (opn p j)).length ≤ 1) ∧ (1 < x.length → meetV p = .tuple #[.int .i64 k, .int .i64 (x[1]! : Nat), .bool true])) := Lib.hid fun x hx => by
            subst hx
            refine ⟨fun h1 j hj => ?_, fun h1 => ?_⟩
            · by_cases e : j = k
              · subst e; exact h1
              · exact HF.out j (by omega)
            · unfold meetV
              rw [meets_some hlt h1 HF.out]
          have HL := Lib.hid hl
          have hgx : (grp p p.length (opn p k)).length ≤ p.length := Nat.le_trans (List.length_filter_le _ _) (by simp)
          clear hl hcl hcl' ho hkey
          have hkm : keyM (opn p k) = .agg #[.int .i64 (opn p k).time, .int .i64 (opn p k).c0, .int .i64 (opn p k).c1, .int .i64 (opn p k).unit] := rfl
          rw [hkm] at hrun
          clear hkm
          generalize hg : grp p p.length (opn p k) = g at *
          have HG := Lib.hid (HG.out _ rfl)
          clear hg
          generalize opn p k = o at *
          obtain ⟨t, a0, a1, u, kd, oh, src⟩ := o
          simp only at *
          subst hoh
          obtain ⟨bv, cv, rfl⟩ := (Sl.of_own hown).shape
          rw [List.length_map] at hown hrun
          by_cases h1 : 1 < g.length
          · have HM := Lib.hid (HG.out.2 h1)
            obtain ⟨b2, of2, cp2, hv, hc2, hcl2⟩ := Sl.at (Sl.of_own hown) (by omega)
            injection hv with hv1 _ hv3
            subst hv1 hv3
            have d1 := hcl2 1 (.int .i64 (g[1]! : Nat)) (by simp [I64k, h1])
            generalize g[1]! = y at *
            have h1i : (1 : Int) < (g.length : Int) := by omega
            clear hcl2 hown
            go_wp2
            go_quiet (fail)
            go_wp2
            go_ret3
            exact ⟨by rw [HM.out]; rfl, hbel.trans ((below_newN wr _ _).mono hbel.size)⟩
          · have HN := Lib.hid (HG.out.1 (by omega))
            have h1i : ¬ (1 : Int) < (g.length : Int) := by omega
            have hgr2 := hgr.alloc (.cells #[.int .i64 t, .int .i64 a0, .int .i64 a1, .int .i64 u, .int .i64 kd, .slice bh src.length ch] 37)
            go_wp2
            go_roundw
            case rel => exact ⟨k + 1, by omega, by go_num, hbel.alloc hbel.size _, hgr2, HN⟩
            case measure => simp [intOf]; omega
        · obtain rfl : k = p.length := by omega
          go_wp2
          go_ret3
          refine ⟨?_, hbel⟩
          unfold meetV
          rw [meets_none HF.out]
          rfl
end Go.Proofs.Ytmjdmpapickgkaa

namespace Go.Proofs.Ytmjdmpapickgkaa
open Go.RowKit Go.Kk Go.WideMaps

set_option maxHeartbeats 2000000 in
theorem refMeet_any (p : List Opn) (v : Value) (w : World) (hl : IsProg w v p) (hok : okProg p = true) :
    Calls Try.prog 41 #[v] w fun e w' => e = .returned (meetV p) ∧ Below w.heap.size w w' := by
  obtain ⟨bs, cq, hval⟩ := hl.1.shape
  subst hval
  have hlp := okProg_len hok
  have hmm := @run_makeMap Try.prog
  go_enter Try.func41, Try.ntmps41
  go_wp2
  go_loopw [6] (fun i wr => ∃ k : Nat, k ≤ p.length ∧ i = .int .i64 k ∧ Below w.heap.size w wr ∧ MGrp Try.prog 77 3 wr (w.heap.size + 1) w.heap.size k (grpL keyR p k)) (fun i _ => p.length - (intOf i).toNat)
  case atStart => exact ⟨0, by omega, rfl, below_alloc _ _, MGrp.made _ _ _ _ _ (grpL_zero _ _)⟩
  case round =>
    obtain ⟨k, hk, rfl, hbel, hgr⟩ := hrel
    by_cases hlt : k < p.length
    · obtain ⟨b1, off, cp1, hv, hc, hcl⟩ := Sl.at hl.1 (by omega)
      injection hv with hv1 _ hv3
      subst hv1 hv3
      have hcl' := hcl.keeps (Keeps.of_below hbel)
      obtain ⟨c0, c1, c2, c3, c4, c5⟩ := op_cells hcl' k hlt
      have ho := opn_eq hlt
      have hkey := keyOfR (opn p k) p.length (ho ▸ okProg_op hok k hlt)
      obtain ⟨kl, hkey⟩ := hkey
      have hgl := grpL_len keyR p k
      have hs1 := grpL_same keyR p k _ rfl
      have hs2 := grpL_other keyR p k
      rw [← ho] at c0 c1 c2 c3 c4 c5
      obtain ⟨bh, ch, hoh⟩ := (hl.2 p[k] (List.getElem_mem _)).shape
      rw [← ho] at hoh
      have HL := Lib.hid hl
      clear hl hcl hcl' ho
      have hgl' := hgl (keyR (opn p k))
      clear hgl
      have hkm : keyR (opn p k) = .agg #[.int .i64 (opn p k).time, .int .i64 (opn p k).unit, .int .i64 (opn p k).c0, .int .i64 (opn p k).c1] := rfl
      simp only [hkm] at hkey hs1 hs2 hgl'
      clear hkm
      generalize opn p k = o at *
      obtain ⟨t, a0, a1, u, kd, oh, src⟩ := o
      simp only at *
      subst hoh
      have HS := Lib.hid (And.intro hs1 hs2)
      clear hs1 hs2
      have c0x := fun o => Keeps.of_below (below_alloc wr o) _ _ c0
      have c1x := fun o => Keeps.of_below (below_alloc wr o) _ _ c1
      have c2x := fun o => Keeps.of_below (below_alloc wr o) _ _ c2
      have c3x := fun o => Keeps.of_below (below_alloc wr o) _ _ c3
      go_wp2
      go_region
      all_goals clear c0x c1x c2x c3x
      go_wp2_with (first
        | (refine wpList_entry (key := .agg #[.int .i64 t, .int .i64 u, .int .i64 a0, .int .i64 a1]) rfl _ _ _ rfl (by first | exact (hgr.alloc _).drew.alloc _ | exact ((hgr.alloc _).alloc _).drew) lawR Try.underlying75 zero25 (by unfold maxLen; omega) rfl rfl hkey ?_; intro v st w1 hg1 hk1 hown1 hback)
        | (at_builtin; go_must (refine wpList_append_at rfl _ _ _ rfl slT25 v rfl hown1 (vx := .slice (some ⟨wr.heap.size + 1, 0, none⟩) 1 1) (m := 1) (news := [.int .i64 k]) rfl (by first | exact (sl_new1 _ _ (by simp) _ _).keeps hk1 | exact ((sl_new1 _ _ (by simp) _ _).keeps (Keeps.drew _)).keeps hk1) (by simp [Value.oneCell']) (by have := hgl' ; unfold maxLen; omega) (by have := hgl' ; omega) (by have h := hg1.size; simp at h; have := hbel.size; omega) _ _ rfl rfl ?_); intro v' w2 hown2 hg2 hat2)
        | (refine wpList_back rfl _ _ _ _ rfl hback rfl rfl rfl hg2 hown2 hat2 (grpL keyR p (k + 1)) HS.out.1 HS.out.2 ?_; intro w3 hg3 hk3 hgr3))
      have hb3 : Below w.heap.size w w3 := by
        have q1 : Below w.heap.size w w1 := (by first | exact ((hbel.alloc hbel.size _).drew.alloc (by have := hbel.size; simp; omega) _) | exact ((hbel.alloc hbel.size _).alloc (by have := hbel.size; simp; omega) _).drew : Below w.heap.size w _).grown hg1 (by have := hbel.size; simp; omega) (by rintro j hj; injection hj with hj; omega)
        have q2 : Below w.heap.size w w2 := q1.grown hg2 q1.size (fun j hj => by have := (hown1.lt j hj).1; omega)
        exact q2.grown hg3 q2.size (by rintro j hj; injection hj with hj; omega)
      clear hg1 hk1 hown1 hback hown2 hg2 hat2 hg3 hk3 hgr hbel
      go_roundw
      case rel => exact ⟨k + 1, by omega, by go_num, hb3, hgr3⟩
      case measure => simp [intOf]; omega
    · obtain rfl : k = p.length := by omega
      clear hlt
      go_wp2
      obtain ⟨w0, hw0⟩ : ∃ x, x = wr := ⟨wr, rfl⟩
      subst hw0
      go_loopw [8] (fun i wr => ∃ k : Nat, k ≤ p.length ∧ i = .int .i64 k ∧ Below w.heap.size w wr ∧ MGrp Try.prog 77 3 wr (w.heap.size + 1) w.heap.size p.length (grpL keyR p p.length) ∧ Hid (∀ j, j < k → (grp p p.length (opn p j)).length ≤ 1)) (fun i _ => p.length - (intOf i).toNat)
      case atStart => exact ⟨0, by omega, rfl, hbel, hgr, Lib.hid fun j hj => by omega⟩
      case round =>
        clear hbel hgr
        obtain ⟨k, hk, rfl, hbel, hgr, HF⟩ := hrel
        by_cases hlt : k < p.length
        · obtain ⟨b1, off, cp1, hv, hc, hcl⟩ := Sl.at hl.1 (by omega)
          injection hv with hv1 _ hv3
          subst hv1 hv3
          have hcl' := hcl.keeps (Keeps.of_below hbel)
          obtain ⟨c0, c1, c2, c3, c4, c5⟩ := op_cells hcl' k hlt
          have ho := opn_eq hlt
          obtain ⟨kl, hkey⟩ := keyOfR (opn p k) p.length (ho ▸ okProg_op hok k hlt)
          obtain ⟨lv, hrun, hown⟩ := hgr.lookN (Maps.Keyed.of_law lawR) Try.underlying75 zero25 (by unfold maxLen; omega) hkey
          rw [grpL_key keyR keyR_iff] at hown
          rw [← ho] at c0 c1 c2 c3 c4 c5
          obtain ⟨bh, ch, hoh⟩ := (hl.2 p[k] (List.getElem_mem _)).shape
          rw [← ho] at hoh
          have HG : Hid (∀ x, x = (grp p p.length (opn p k)) → (x.length ≤ 1 → ∀ j, j < k + 1 → (grp p p.length (opn p j)).length ≤ 1) ∧ (1 < x.length → meetV p = .tuple #[.int .i64 k, .int .i64 (x[1]! : Nat), .bool true] ∧ x[0]! = k)) := Lib.hid fun x hx => by
            subst hx
            refine ⟨fun h1 j hj => ?_, fun h1 => ?_⟩
            · by_cases e : j = k
              · subst e; exact h1
              · exact HF.out j (by omega)
            · refine ⟨?_, meets_head hlt h1 HF.out⟩
              unfold meetV
              rw [meets_some hlt h1 HF.out]
          have HL := Lib.hid hl
          have hgx : (grp p p.length (opn p k)).length ≤ p.length := Nat.le_trans (List.length_filter_le _ _) (by simp)
          clear hl hcl hcl' ho hkey
          have hkm : keyR (opn p k) = .agg #[.int .i64 (opn p k).time, .int .i64 (opn p k).unit, .int .i64 (opn p k).c0, .int .i64 (opn p k).c1] := rfl
          rw [hkm] at hrun
          clear hkm
          generalize hg : grp p p.length (opn p k) = g at *
          have HG := Lib.hid (HG.out _ rfl)
          clear hg
          generalize opn p k = o at *
          obtain ⟨t, a0, a1, u, kd, oh, src⟩ := o
          simp only at *
          subst hoh
          obtain ⟨bv, cv, rfl⟩ := (Sl.of_own hown).shape
          rw [List.length_map] at hown hrun
          by_cases h1 : 1 < g.length
          · have HM := Lib.hid (HG.out.2 h1)
            obtain ⟨b2, of2, cp2, hv, hc2, hcl2⟩ := Sl.at (Sl.of_own hown) (by omega)
            injection hv with hv1 _ hv3
            subst hv1 hv3
            have d0 := hcl2 0 (.int .i64 (g[0]! : Nat)) (by simp [I64k, show 0 < g.length by omega])
            rw [HM.out.2, Nat.add_zero] at d0
            have d1 := hcl2 1 (.int .i64 (g[1]! : Nat)) (by simp [I64k, h1])
            generalize g[1]! = y at *
            have h1i : (1 : Int) < (g.length : Int) := by omega
            clear hcl2 hown
            go_wp2
            go_quiet (fail)
            go_wp2
            go_quiet (fail)
            go_wp2
            go_ret3
            exact ⟨by rw [HM.out.1]; rfl, below_drewN' (below_drewN' hbel _) _⟩
          · have HN := Lib.hid (HG.out.1 (by omega))
            have h1i : ¬ (1 : Int) < (g.length : Int) := by omega
            go_wp2
            go_quiet (fail)
            go_wp2
            go_roundw
            case rel => exact ⟨k + 1, by omega, by go_num, below_drewN' hbel _, hgr.drewN _, HN⟩
            case measure => simp [intOf]; omega
        · obtain rfl : k = p.length := by omega
          go_wp2
          go_ret3
          refine ⟨?_, hbel⟩
          unfold meetV
          rw [meets_none HF.out]
          rfl
end Go.Proofs.Ytmjdmpapickgkaa
