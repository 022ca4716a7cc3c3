/- A map of slices that the call makes and fills by 'm[k] = append(m[k], x)': what its slices own, key by key. No program in sight. -/
import Derived.Test.YtmjdmpapickgkaaF
import Derived.Maps.Keyed
import Derived.Maps.Own
import Derived.Maps.OwnRows
import Derived.WideKeyEntry
import Derived.DeepKeys4
namespace Go.Kk
open Go.RowKit Go.MapKept
open Go.WideElems (Fit rd rg rd_key)
open Go.WideMaps (KeyLaw)
open Go.Maps (Keyed)
open Go.ChangeMaps (setBlock heap_setBlock_same heap_setBlock_other putKey notKey)

def I64k (l : List Int) : List Value := l.map (.int .i64 ·)

/-- block b is a map whose keys' slices own the lists L, in rows from base on, no two in one row -/
def MGrp (P : Program) (k e : TypeId) (w : World) (base b n : Nat) (L : Value → List Int) : Prop :=
  ∃ es clock, w.heap[b]? = some (.map es clock) ∧ Stamped es clock ∧ es.size ≤ n ∧ (∀ x ∈ es.toList, ∃ l, keyOf P k x.key = some l) ∧
    (∀ x ∈ es.toList, w.ownsRow base e 1 x.val (L x.key).length (I64k (L x.key))) ∧ (∀ key, (∀ x ∈ es.toList, x.key ≠ key) → L key = []) ∧
    (∀ x ∈ es.toList, ∀ y ∈ es.toList, x.key ≠ y.key → x.val.ownBlock = none ∨ x.val.ownBlock ≠ y.val.ownBlock) ∧ b < base

variable {P : Program} {k e : TypeId} {w : World} {base b n : Nat} {L : Value → List Int}

theorem MGrp.made (w : World) (P : Program) (k e : TypeId) (L : Value → List Int) (hL : ∀ q, L q = []) : MGrp P k e (w.alloc (.map #[] 0)) (w.heap.size + 1) w.heap.size 0 L :=
  ⟨#[], 0, heap_alloc_new w _, stamped_empty 0, Nat.le_refl _, by simp, by simp, fun q _ => hL q, by simp, by omega⟩

theorem MGrp.kept {w' : World} (h : MGrp P k e w base b n L) (hg : w.grownBy w' none) : MGrp P k e w' base b n L := by
  obtain ⟨es, clock, hb, hs, hn, hk, ho, hno, hap, hlt⟩ := h
  refine ⟨es, clock, (hg.block b (heap_lt hb) (by simp)).trans hb, hs, hn, hk, fun x hx => (ho x hx).kept hg ?_, hno, hap, hlt⟩
  cases x.val.ownBlock <;> simp
theorem MGrp.alloc (h : MGrp P k e w base b n L) (o : Obj) : MGrp P k e (w.alloc o) base b n L := h.kept (World.grownBy_alloc _ _ _)
theorem MGrp.drew (h : MGrp P k e w base b n L) : MGrp P k e w.drew base b n L := h.kept ⟨rfl, rfl, rfl, Nat.le_refl _, fun _ _ _ => rfl⟩
theorem MGrp.drewN (h : MGrp P k e w base b n L) (q : Nat) : MGrp P k e (w.drewN q) base b n L := h.kept ⟨rfl, rfl, rfl, Nat.le_refl _, fun _ _ _ => rfl⟩
theorem MGrp.lt (h : MGrp P k e w base b n L) : b < w.heap.size := by obtain ⟨es, clock, hb, _⟩ := h; exact heap_lt hb

theorem fit0 {es : Array MapEntry} {clock : Nat} (hs : Stamped es clock) (hn : es.size ≤ maxLen) (hk : ∀ x ∈ es.toList, ∃ l, keyOf P k x.key = some l) : Fit P k (fun _ => some ((.nil : DataW Unit), ([] : List MemPlace))) es clock :=
  ⟨hn, hs, fun x hx => by obtain ⟨l, hl⟩ := hk x hx; exact ⟨(l, .nil), by simp [rd, hl]⟩⟩

/-- 'm[k]' -/
theorem MGrp.look {t E : TypeId} {key : Value} {kl : Lit} (h : MGrp P k e w base b n L) (K : Keyed P k) (ht : P.underlying t = some (.map k E)) (hz : (zeroValue E).run P w = .ok (.slice none 0 0) w) (hn : n ≤ maxLen) (hkey : keyOf P k key = some kl) :
    ∃ v, (Instr.lookup t (.map (some b)) key false).run P w = .ok v w ∧ w.ownsRow base e 1 v (L key).length (I64k (L key)) := by
  obtain ⟨es, clock, hb, hs, hsz, hk, ho, hno, hap, hlt⟩ := h
  rcases Maps.fit_look false K ht hz hb (fit0 hs (by omega) hk) hkey with ⟨hrun, hn, _⟩ | ⟨e0, y, hm, h3, hrun, _⟩
  · refine ⟨_, hrun, ?_⟩
    rw [hno key hn]
    exact World.ownsRow_nil _ _ _ _
  · refine ⟨_, hrun, ?_⟩
    have := ho e0 hm
    rw [h3] at this
    exact this

theorem eq_of_key {es : List MapEntry} (h : es.Pairwise (fun x y => x.key ≠ y.key)) {x y : MapEntry} (hx : x ∈ es) (hy : y ∈ es) (e : x.key = y.key) : x = y := by
  induction es with
  | nil => cases hx
  | cons a l ih =>
    obtain ⟨h1, h2⟩ := List.pairwise_cons.1 h
    rcases List.mem_cons.1 hx with rfl | hx'
    · rcases List.mem_cons.1 hy with rfl | hy'
      · rfl
      · exact absurd e (h1 y hy')
    · rcases List.mem_cons.1 hy with rfl | hy'
      · exact absurd e.symm (h1 x hx')
      · exact ih h2 hx' hy'

/-- 'm[k]', in every world of the same memory -/
theorem MGrp.lookN {t E : TypeId} {key : Value} {kl : Lit} (h : MGrp P k e w base b n L) (K : Keyed P k) (ht : P.underlying t = some (.map k E)) (hz : ∀ u : World, (zeroValue E).run P u = .ok (.slice none 0 0) u) (hn : n ≤ maxLen) (hkey : keyOf P k key = some kl) :
    ∃ v, (∀ q, (Instr.lookup t (.map (some b)) key false).run P (w.drewN q) = .ok v (w.drewN q)) ∧ w.ownsRow base e 1 v (L key).length (I64k (L key)) := by
  obtain ⟨es, clock, hb, hs, hsz, hk, ho, hno, hap, hlt⟩ := h
  rcases Maps.fit_look false K ht (hz w) hb (fit0 hs (by omega) hk) hkey with ⟨hrun, hn, _⟩ | ⟨e0, y, hm, h3, hrun, _⟩
  · refine ⟨.slice none 0 0, fun q => ?_, ?_⟩
    · rcases Maps.fit_look (w := w.drewN q) false K ht (hz _) hb (fit0 hs (by omega) hk) hkey with ⟨hrun, _, _⟩ | ⟨e0, y, hm, h3, _, _⟩
      · exact hrun
      · exact absurd h3 (hn e0 hm)
    · rw [hno key hn]
      exact World.ownsRow_nil _ _ _ _
  · refine ⟨e0.val, fun q => ?_, ?_⟩
    · rcases Maps.fit_look (w := w.drewN q) false K ht (hz _) hb (fit0 hs (by omega) hk) hkey with ⟨_, hn, _⟩ | ⟨e1, y, hm1, h31, hrun1, _⟩
      · exact absurd h3 (hn e0 hm)
      · have := eq_of_key ((stamped_iff es clock).1 hs).2.2 hm1 hm (h31.trans h3.symm)
        subst this
        exact hrun1
    · have := ho e0 hm
      rw [h3] at this
      exact this

theorem grown_setBlock (w : World) (b : Nat) (o : Obj) (hb : ∃ es clock, w.heap[b]? = some (.map es clock)) : w.grownBy (setBlock w b o) (some b) := by
  obtain ⟨_, _, hb⟩ := hb
  exact ⟨rfl, rfl, rfl, by simp [setBlock], fun i _ hi => heap_setBlock_other hb _ (fun e1 => hi (by rw [e1]))⟩

open Classical in
/-- 'm[k] = append(m[k], x)', between its two ends -/
theorem MGrp.entry {t E : TypeId} {key : Value} {kl : Lit} (h : MGrp P k e w base b n L) (KL : KeyLaw P k) (ht : P.underlying t = some (.map k E)) (hz : ∀ u : World, (zeroValue E).run P u = .ok (.slice none 0 0) u) (hn : n < maxLen) (hkey : keyOf P k key = some kl) :
    ∃ v st w1, (Instr.mapEntry t (.map (some b)) key).run P w = .ok (.tuple #[v, goInt st]) w1 ∧ w.grownBy w1 (some b) ∧ w1.heap.size = w.heap.size ∧ (∃ es clock, w1.heap[b]? = some (.map es clock)) ∧ w1.ownsRow base e 1 v (L key).length (I64k (L key)) ∧
      ∀ (w2 : World) (v' : Value) (x : Int), w1.grownBy w2 v.ownBlock → w2.ownsRow base e 1 v' ((L key).length + 1) (I64k (L key) ++ [.int .i64 x]) → (v'.ownBlock = v.ownBlock ∨ v'.ownBlock = some w1.heap.size) →
        ∃ w3, (Instr.entryStore t (.map (some b)) (goInt st) v').run P w2 = .ok () w3 ∧ w2.grownBy w3 (some b) ∧ MGrp P k e w3 base b (n + 1) (fun q => if q = key then L key ++ [x] else L q) := by
  obtain ⟨es, clock, hb, hs, hsz, hk, ho, hno, hap, hlt⟩ := h
  have F := fit0 hs (Nat.le_of_lt (Nat.lt_of_le_of_lt hsz hn)) hk
  have hbw := heap_lt hb
  obtain ⟨v0, st, es1, clock1, hrun, hwho, hstore⟩ := WideElems.entry_then_store KL ht hz hb F hkey
  have hg1 := grown_setBlock w b (.map es1 clock1) ⟨_, _, hb⟩
  have ne_of : ∀ {u : World} {v : Value} {m : Nat} {xs : List Value}, u.ownsRow base e 1 v m xs → v.ownBlock = none ∨ v.ownBlock ≠ some b := fun {u v m xs} hr => by
    cases hv : v.ownBlock with
    | none => exact .inl rfl
    | some g => exact .inr fun e1 => by have := (hr.lt g hv).1; cases e1; omega
  have hv0 : w.ownsRow base e 1 v0 (L key).length (I64k (L key)) := by
    rcases hwho with ⟨e0, hm, h3, rfl⟩ | ⟨hn, rfl⟩
    · rw [← h3]; exact ho e0 hm
    · rw [hno key hn]; exact World.ownsRow_nil _ _ _ _
  have hoth : ∀ x ∈ es.toList, x.key ≠ key → x.val.ownBlock = none ∨ x.val.ownBlock ≠ v0.ownBlock := by
    intro x hx hne
    rcases hwho with ⟨e0, hm, h3, rfl⟩ | ⟨hn, rfl⟩
    · exact hap x hx e0 hm (by rw [h3]; exact hne)
    · cases x.val.ownBlock <;> simp [Value.ownBlock]
  refine ⟨v0, st, setBlock w b (.map es1 clock1), hrun, hg1, by simp [setBlock], ⟨_, _, heap_setBlock_same hb _⟩, hv0.kept hg1 (ne_of hv0), fun w2 v' xn hg hown' hloc => ?_⟩
  have hv0b := ne_of hv0
  have hb2 : w2.heap[b]? = some (.map es1 clock1) := (hg.block b (by simp [setBlock]; exact hbw) (by
    rcases hv0b with h | h
    · rw [h]; simp
    · exact fun e => h e.symm)).trans (heap_setBlock_same hb _)
  obtain ⟨es', clock', hst, hmu⟩ := hstore w2 v' hb2
  obtain ⟨es'', clock'', hrun', F', hput, _, _, hwho'⟩ := Maps.fit_store (R' := fun _ => some ((.nil : DataW Unit), ([] : List MemPlace))) (val := v') (Keyed.of_law KL) ht hb F (Nat.lt_of_le_of_lt hsz hn) (fun _ _ _ _ h => h) hkey rfl
  rw [hmu] at hrun'
  obtain ⟨rfl, rfl⟩ : es' = es'' ∧ clock' = clock'' := by
    have h1 : setBlock w b (.map es' clock') = setBlock w b (.map es'' clock'') := by simpa using hrun'
    have h2 := congrArg (fun u : World => u.heap[b]?) h1
    simp only [heap_setBlock_same hb] at h2
    simpa using h2
  have hg3 := grown_setBlock w2 b (.map es' clock') ⟨_, _, hb2⟩
  refine ⟨_, hst, hg3, es', clock', heap_setBlock_same hb2 _, F'.stamped, ?_, fun x hx => ?_, fun x hx => ?_, fun q hq => ?_, fun x hx y hy hne => ?_, hlt⟩
  · have e1 : es'.size = ((es'.toList.map (rg P k (fun _ => some ((.nil : DataW Unit), ([] : List MemPlace))))).foldr DataW.insert []).length := by rw [length_sorted]; simp
    rw [e1, hput]
    unfold putKey
    rw [length_insert]
    have e2 := List.length_filter_le (notKey kl) ((es.toList.map (rg P k (fun _ => some ((.nil : DataW Unit), ([] : List MemPlace))))).foldr DataW.insert [])
    rw [length_sorted] at e2
    simp at e2
    omega
  · obtain ⟨y, hy⟩ := F'.reads x hx
    exact ⟨_, rd_key hy⟩
  · rcases hwho' x hx with ⟨hx0, hxk⟩ | ⟨hxk, hxv⟩
    · dsimp only
      rw [if_neg hxk]
      exact (((ho x hx0).kept hg1 (ne_of (ho x hx0))).kept hg (hoth x hx0 hxk)).kept hg3 (ne_of (ho x hx0))
    · dsimp only
      rw [if_pos hxk, hxv, List.length_append]
      have h5 := hown'.kept hg3 (ne_of hown')
      simpa [I64k] using h5
  · have hin : ∀ (l : Lit), (l = kl ∨ (l ≠ kl ∧ ∃ x ∈ es.toList, keyOf P k x.key = some l)) → ∃ x' ∈ es'.toList, keyOf P k x'.key = some l := by
      intro l hl
      have hm : (l, (.nil : DataW Unit)) ∈ putKey kl (.nil : DataW Unit) ((es.toList.map (rg P k (fun _ => some ((.nil : DataW Unit), ([] : List MemPlace))))).foldr DataW.insert []) := by
        unfold putKey
        rw [ChangeMaps.mem_insert_iff]
        rcases hl with rfl | ⟨hne, x0, hx0, hxl⟩
        · exact .inl rfl
        · refine .inr (List.mem_filter.2 ⟨(WideShapes.sorted_perm _).mem_iff.2 (List.mem_map.2 ⟨x0, hx0, ?_⟩), (Maps.notKey_iff ((Keyed.of_law KL).key hkey)).2 hne⟩)
          exact WideElems.rg_of (y := (l, .nil)) (by simp [rd, hxl])
      rw [← hput] at hm
      obtain ⟨x', hx', he⟩ := List.mem_map.1 ((WideShapes.sorted_perm _).mem_iff.1 hm)
      obtain ⟨y, hy⟩ := F'.reads x' hx'
      rw [WideElems.rg_of hy] at he
      exact ⟨x', hx', by rw [rd_key hy]; rw [he]⟩
    by_cases e1 : q = key
    · exfalso
      obtain ⟨x', hx', hk'⟩ := hin kl (.inl rfl)
      exact hq x' hx' (by rw [e1]; exact KL.inj hk' hkey)
    · dsimp only
      rw [if_neg e1]
      refine hno q fun x0 hx0 e2 => ?_
      obtain ⟨l, hl⟩ := hk x0 hx0
      obtain ⟨x', hx', hk'⟩ := hin l (.inr ⟨fun e3 => e1 (by rw [← e2]; exact KL.inj hl (e3 ▸ hkey)), x0, hx0, hl⟩)
      exact hq x' hx' (by rw [← e2]; exact KL.inj hk' hl)
  · have old_new : ∀ x ∈ es.toList, x.key ≠ key → x.val.ownBlock = none ∨ x.val.ownBlock ≠ v'.ownBlock := by
      intro x hx hne
      rcases hloc with h1 | h1
      · rw [h1]
        exact hoth x hx hne
      · cases hx' : x.val.ownBlock with
        | none => exact Or.inl rfl
        | some gx =>
          have := ((ho x hx).lt gx hx').2
          refine Or.inr (fun e1 => ?_)
          rw [h1] at e1
          simp [setBlock] at e1
          omega
    rcases hwho' x hx with ⟨hx0, hxk⟩ | ⟨hxk, hxv⟩ <;> rcases hwho' y hy with ⟨hy0, hyk⟩ | ⟨hyk, hyv⟩
    · exact hap x hx0 y hy0 hne
    · rw [hyv]
      exact old_new x hx0 hxk
    · rw [hxv]
      exact (dis_swap (old_new y hy0 hyk))
    · exact absurd (hxk.trans hyk.symm) hne

/-- the way back -/
def MBack (P : Program) (t k e : TypeId) (w1 : World) (base b n : Nat) (key : Value) (l : List Int) (L : Value → List Int) (v st : Value) : Prop :=
  ∀ (w2 : World) (v' : Value) (x : Int) (L' : Value → List Int), w1.grownBy w2 v.ownBlock → w2.ownsRow base e 1 v' (l.length + 1) (I64k l ++ [.int .i64 x]) → (v'.ownBlock = v.ownBlock ∨ v'.ownBlock = some w1.heap.size) →
    L' key = l ++ [x] → (∀ q, q ≠ key → L' q = L q) → ∃ w3, (Instr.entryStore t (.map (some b)) st v').run P w2 = .ok () w3 ∧ w2.grownBy w3 (some b) ∧ Keeps w2 w3 ∧ MGrp P k e w3 base b (n + 1) L'

theorem keeps_map {w w1 : World} {b : Nat} (hb : ∃ es clock, w.heap[b]? = some (.map es clock)) (hg : w.grownBy w1 (some b)) : Keeps w w1 := by
  obtain ⟨es, clock, hb⟩ := hb
  intro a u hu
  refine hg.cell hu fun e1 => ?_
  injection e1 with e1
  rw [← e1] at hb
  simp [World.cell?, hb] at hu

open Classical in
theorem MGrp.entry' {t E : TypeId} {key : Value} {kl : Lit} (h : MGrp P k e w base b n L) (KL : KeyLaw P k) (ht : P.underlying t = some (.map k E)) (hz : ∀ u : World, (zeroValue E).run P u = .ok (.slice none 0 0) u) (hn : n < maxLen) (hkey : keyOf P k key = some kl) :
    ∃ v st w1, (Instr.mapEntry t (.map (some b)) key).run P w = .ok (.tuple #[v, st]) w1 ∧ w.grownBy w1 (some b) ∧ Keeps w w1 ∧ w1.ownsRow base e 1 v (L key).length (I64k (L key)) ∧ MBack P t k e w1 base b n key (L key) L v st := by
  obtain ⟨v, st, w1, h1, h2, h3, hm, h4, h5⟩ := h.entry KL ht hz hn hkey
  refine ⟨v, goInt st, w1, h1, h2, keeps_map (by obtain ⟨es, clock, hb, _⟩ := h; exact ⟨es, clock, hb⟩) h2, h4, fun w2 v' x L' g1 g2 g3 e1 e2 => ?_⟩
  obtain ⟨w3, q1, q2, q3⟩ := h5 w2 v' x g1 g2 g3
  have hbv : some b ≠ v.ownBlock := fun hv => by
    have := (h4.lt b hv.symm).1
    obtain ⟨es, clock, _, _, _, _, _, _, _, hlt⟩ := h
    omega
  refine ⟨w3, q1, q2, keeps_map ?_ q2, ?_⟩
  · obtain ⟨es, clock, hm⟩ := hm
    exact ⟨es, clock, (g1.block b (heap_lt hm) hbv).trans hm⟩
  · have : (fun q => if q = key then L key ++ [x] else L q) = L' := by
      funext q
      by_cases hq : q = key
      · subst hq; simp [e1]
      · rw [if_neg hq]; exact (e2 q hq).symm
    rw [← this]
    exact q3

variable {ops : Array Oper} {rest : List Oper} {o : Oper} {a : Act} {Q : Exit → Act → World → Prop}
theorem wpList_mapEntry (hgd : o.guard = none) (m x : Operand) (t : TypeId) (ho : o.op = Op.mapEntry t m x) {b : Nat} {key v : Value} {w1 : World} (hm : a.eval m = .map (some b)) (hx : a.eval x = key)
    (hrun : (Instr.mapEntry t (.map (some b)) key).run P w = .ok v w1) (h : wpList P ops Q rest (a.put o.dst v) w1) : wpList P ops Q (o :: rest) a w := by
  refine wpList_plain hgd fun K' hK' => ?_
  unfold Oper.wp
  simp [execOp, ho, hm, hx, hrun, Result.andThen]
  exact hK' _ _ h
theorem wpList_entry (hgd : o.guard = none) (m x : Operand) (t : TypeId) (ho : o.op = Op.mapEntry t m x) {E : TypeId} {key : Value} {kl : Lit} (h : MGrp P k e w base b n L) (KL : KeyLaw P k) (ht : P.underlying t = some (.map k E))
    (hz : ∀ u : World, (zeroValue E).run P u = .ok (.slice none 0 0) u) (hn : n < maxLen) (hm : a.eval m = .map (some b)) (hx : a.eval x = key) (hkey : keyOf P k key = some kl)
    (hK : ∀ v st w1, w.grownBy w1 (some b) → Keeps w w1 → w1.ownsRow base e 1 v (L key).length (I64k (L key)) → MBack P t k e w1 base b n key (L key) L v st → wpList P ops Q rest (a.put o.dst (.tuple #[v, st])) w1) : wpList P ops Q (o :: rest) a w := by
  obtain ⟨v, st, w1, h1, h2, h3, h4, h5⟩ := h.entry' KL ht hz hn hkey
  exact wpList_mapEntry hgd m x t ho hm hx h1 (hK v st w1 h2 h3 h4 h5)
theorem wpList_back (hgd : o.guard = none) (m s x : Operand) (t : TypeId) (ho : o.op = Op.entryStore t m s x) {w1 : World} {key v st v' : Value} {l : List Int} {y : Int} (hB : MBack P t k e w1 base b n key l L v st) (hm : a.eval m = .map (some b)) (hs : a.eval s = st) (hx : a.eval x = v')
    (hg : w1.grownBy w v.ownBlock) (hown : w.ownsRow base e 1 v' (l.length + 1) (I64k l ++ [.int .i64 y])) (hloc : v'.ownBlock = v.ownBlock ∨ v'.ownBlock = some w1.heap.size) (L' : Value → List Int) (e1 : L' key = l ++ [y]) (e2 : ∀ q, q ≠ key → L' q = L q)
    (hK : ∀ w3, w.grownBy w3 (some b) → Keeps w w3 → MGrp P k e w3 base b (n + 1) L' → wpList P ops Q rest (a.put o.dst undef) w3) : wpList P ops Q (o :: rest) a w := by
  obtain ⟨w3, q1, q2, q3, q4⟩ := hB w v' y L' hg hown hloc e1 e2
  refine wpList_plain hgd fun K' hK' => ?_
  unfold Oper.wp
  simp [execOp, ho, hm, hs, hx, q1, Result.andThen]
  exact hK' _ _ (hK w3 q2 q3 q4)
theorem wpList_entryStore (hgd : o.guard = none) (m s x : Operand) (t : TypeId) (ho : o.op = Op.entryStore t m s x) {b : Nat} {vs v : Value} {w1 : World} (hm : a.eval m = .map (some b)) (hs : a.eval s = vs) (hx : a.eval x = v)
    (hrun : (Instr.entryStore t (.map (some b)) vs v).run P w = .ok () w1) (h : wpList P ops Q rest (a.put o.dst undef) w1) : wpList P ops Q (o :: rest) a w := by
  refine wpList_plain hgd fun K' hK' => ?_
  unfold Oper.wp
  simp [execOp, ho, hm, hs, hx, hrun, Result.andThen]
  exact hK' _ _ h
end Go.Kk
