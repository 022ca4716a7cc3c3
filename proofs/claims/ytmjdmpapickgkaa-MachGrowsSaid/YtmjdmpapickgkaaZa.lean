import Derived.Test.YtmjdmpapickgkaaZ9
import Derived.Test.YtmjdmpapickgkaaZ6
namespace Go.Proofs.Ytmjdmpapickgkaa
open Go.RowKit Go.Kk

/-- p is read the same as long as only block G turns -/
def PX (w : World) (v : Value) (p : List Opn) (G : Nat) : Prop := ∀ w1, Fr (· = G) w w1 → IsProg w1 v p
theorem PX.trans {w w1 : World} {v : Value} {p : List Opn} {G : Nat} (h : PX w v p G) (k : Fr (· = G) w w1) : PX w1 v p G := fun w2 h2 => h w2 (k.trans h2)
theorem PX.of {wb w : World} {v : Value} {p : List Opn} {G : Nat} (h : IsProg wb v p) (hb : Below wb.heap.size wb w) (hG : wb.heap.size ≤ G) : PX w v p G := fun w1 h1 =>
  h.keeps (Keeps.of_below (hb.trans (h1.below hb.size (fun k hk => by omega))))
theorem own_fr {w w1 : World} {G B : Nat} {e : TypeId} {sz : Nat} {v : Value} {n : Nat} {xs : List Value} (h : w.ownsRow B e sz v n xs) (hG : G < B) (k : Fr (· = G) w w1) : w1.ownsRow B e sz v n xs :=
  h.kept (row := some G) ⟨k.os, k.tape, k.output, k.size, fun j hj hn => k.block j hj (fun e => hn (by rw [e]))⟩ (by
    cases hv : v.ownBlock with
    | none => exact .inl rfl
    | some g => exact .inr fun e => by have := (h.lt g hv).1; cases e; omega)

theorem fr_grown {S : Nat → Prop} {A W w1 : World} {row : Option Nat} (h : Fr S A W) (hg : W.grownBy w1 row) (hr : ∀ k, row = some k → A.heap.size ≤ k) : Fr S A w1 :=
  ⟨hg.os.trans h.os, hg.tape.trans h.tape, hg.output.trans h.output, Nat.le_trans h.size hg.size, fun k hk hs => (hg.block k (Nat.lt_of_lt_of_le hk h.size) (fun e => by have := hr k e.symm; omega)).trans (h.block k hk hs)⟩
/-- 'out = append(out, y)', y in a new box; a frame -/
theorem wpList_pushF {P : Program} {W : World} {ops : Array Oper} {rest : List Oper} {o : Oper} {a : Act} {Q : Exit → Act → World → Prop} {y : Value} {e : TypeId} (hgd : o.guard = none) (s x : Operand) (t : TypeId) (ho : o.op = .call { callee := .builtin .append, args := #[s, x], argTypes := #[t, t] })
    {bytes : Nat} {z : Value} (T : SlT P t e 1 bytes z) {B : Nat} (v : Value) {n : Nat} {xs : List Value} (hs : a.eval s = v) (hown : W.ownsRow B e 1 v n xs) {b : Nat} (hx : a.eval x = .slice (some ⟨b, 0, none⟩) 1 1) (hb : b = W.heap.size) (hy : y.oneCell' = true)
    (hn : n + 1 ≤ 1000000) (hby : bytes ≤ 1000000) {A : World} {S : Nat → Prop} (hfr : Fr S A W) (hAB : A.heap.size ≤ B) (hB : B ≤ W.heap.size) (ys : List Value) (hys : xs ++ [y] = ys)
    (h : ∀ v' w', w'.ownsRow B e 1 v' (n + 1) ys → Fr S A w' → (∀ k, k < A.heap.size → w'.heap[k]? = W.heap[k]?) → wpList P ops Q rest (a.put o.dst v') w') : wpList P ops Q (o :: rest) a (W.alloc (.cells #[y] e)) := by
  have h1 : (n + 1) * bytes ≤ 1000000 * 1000000 := Nat.mul_le_mul hn hby
  refine wpList_append_at hgd s x t ho T v hs (hown.alloc _) hx (sl_new1 W b hb y e) (by simpa using hy) (by unfold maxLen; omega) (by omega) (by simp; omega) (n + 1) ys rfl hys fun v' w' ho' hg _ => h v' w' ho' (fr_grown (hfr.alloc _) hg fun j hj => by have := (hown.lt j hj).1; omega) fun k hk => ?_
  have := hfr.size
  rw [hg.block k (by simp; omega) (fun e => by have := (hown.lt k e.symm).1; omega), heap_alloc_old _ _ (by omega)]

def ValPost (p : List Opn) (G i : Nat) (w : World) (M : Nat → Int) (e : Ending) (w' : World) : Prop :=
  ∃ M', e = .returned (.int .i64 (M' i)) ∧ Rng (M' i) ∧ Cl p M' ∧ Ext M M' ∧ ArrV w' G p.length M' ∧ Fr (· = G) w w'

set_option maxRecDepth 100000 in
set_option maxHeartbeats 4000000 in
theorem value_any (p : List Opn) (v : Value) (G : Nat) (hok : okProg p = true) (hr : Ready p) (m : Nat) : ∀ (i : Nat) (w : World) (M : Nat → Int), i < p.length → (timeOf p i + 100000).toNat < m → ArrV w G p.length M → Cl p M → PX w v p G →
    Calls Try.prog 55 #[v, .int .i64 i, rowV G p.length] w (ValPost p G i w M) := by
  induction m with
  | zero => intro i w M _ h; omega
  | succ m ih =>
    intro i w M hi hm hA hC hP
    have hl := hP w (Fr.refl _ _)
    obtain ⟨bs, cq, hval⟩ := hl.1.shape
    subst hval
    have hlp := okProg_len hok
    have hGw := heap_lt hA
    have hil : (i : Int) < (p.length : Int) := by omega
    by_cases hM : M i = -1
    rotate_left
    · have hrg : Rng (M i) := by
        rcases hC i hi with h | h
        · exact absurd h hM
        · exact h.1
      have c := hA.cell hi
      have HX := Lib.hid (And.intro hA hC)
      have HM : Hid (∃ M', M i = M' i ∧ Rng (M' i) ∧ Cl p M' ∧ Ext M M' ∧ ArrV w G p.length M') := Lib.hid ⟨M, rfl, hrg, hC, Ext.refl _, hA⟩
      unfold Rng at hrg
      generalize M i = x at *
      have hx : decide (0 ≤ x) = true := by simpa using hrg.1
      clear hl hA hC hP ih hM HX hok hr
      go_enter Try.func55, Try.ntmps55
      go_wp2
      go_ret
      obtain ⟨M', h1, h2, h3, h4, h5⟩ := HM.out
      exact ⟨M', by rw [← h1]; rfl, h2, h3, h4, h5, Fr.refl _ _⟩
    · have c := hA.cell hi
      rw [hM] at c
      have hoo := okProg_op hok i hi
      have ho := opn_eq hi
      rw [← ho] at hoo
      have hti := timeOf_bd hok i hi
      have hrd := hr i hi
      have hsrc := hoo.src
      have hlen := hoo.len3
      have hkd := hoo.k
      have hln := hoo.len
      -- the recursion, by need
      have HI : Hid (∀ (s : Src) (w1 : World) (M1 : Nat → Int), s ∈ (opn p i).src → 0 ≤ s.op → ArrV w1 G p.length M1 → Cl p M1 → PX w1 (.slice bs p.length cq) p G → Calls Try.prog 55 #[.slice bs p.length cq, .int .i64 s.op, rowV G p.length] w1 (ValPost p G s.op.toNat w1 M1)) := Lib.hid fun s w1 M1 hs h0 hA1 hC1 hP1 => by
        obtain ⟨h1, h2⟩ := hrd s hs h0
        obtain ⟨j, hj⟩ := Int.eq_ofNat_of_zero_le h0
        rw [hj] at h1 h2 ⊢
        simp only [Int.toNat_natCast] at h1 h2 ⊢
        have := timeOf_bd hok j h1
        exact ih j w1 M1 h1 (by omega) hA1 hC1 hP1
      have HF : Hid (∀ (M1 : Nat → Int), Cl p M1 → (∀ s ∈ (opn p i).src, 0 ≤ s.op → Rng (M1 s.op.toNat)) → _) := Lib.hid fun M1 h1 h2 => h1.form hi h2
      have hop : ∃ b1 off, bs = some ⟨b1, off, none⟩ := by
        obtain ⟨b1, off, cp1, hv, _⟩ := Sl.at hl.1 (by omega)
        injection hv with hv1
        exact ⟨b1, off, hv1⟩
      obtain ⟨b1, off, rfl⟩ := hop
      have HCl : Hid (∀ w1, Fr (· = G) w w1 → w1.cell? ⟨b1, off + i * 6 + 4, none⟩ = some (.int .i64 (opn p i).kind) ∧ w1.cell? ⟨b1, off + i * 6 + 5, none⟩ = some (opn p i).h ∧ IsSrcs w1 (opn p i).h (opn p i).src) := Lib.hid fun w1 h1 => by
        have hl1 := hP w1 h1
        obtain ⟨b2, off2, cp2, hv, _, hcl⟩ := Sl.at hl1.1 (by omega)
        injection hv with hv1 _ hv3
        injection hv1 with hv1
        injection hv1 with hv1 hv2
        subst hv1 hv2 hv3
        obtain ⟨c0, c1, c2, c3, c4, c5⟩ := op_cells hcl i hi
        rw [ho]
        exact ⟨c4, c5, hl1.2 p[i] (List.getElem_mem _)⟩
      have HX := Lib.hid (And.intro hA (And.intro hC hP))
      clear hl hA hC hP ih hM hok hr hoo ho hrd
      generalize opn p i = o at *
      obtain ⟨t, a0, a1, u, kd, oh, src⟩ := o
      simp only at *
      obtain ⟨bh, ch, hoh⟩ := (HCl.out w (Fr.refl _ _)).2.2.shape
      subst hoh
      have HS := Lib.hid hsrc
      clear hsrc
      go_enter Try.func55, Try.ntmps55
      go_wp2
      go_loopw [7, 8] (fun vl vk wr => ∃ (j : Nat) (Mj : Nat → Int), j ≤ src.length ∧ vk = .int .i64 j ∧ Hid (wr.ownsRow w.heap.size 3 1 vl j (I64 ((src.take j).map (srcV Mj)))) ∧ Hid (ArrV wr G p.length Mj ∧ Cl p Mj ∧ Ext M Mj ∧ ∀ s ∈ src.take j, 0 ≤ s.op → Rng (Mj s.op.toNat)) ∧ Fr (· = G) w wr) (fun _ vk _ => src.length - (intOf vk).toNat)
      case atStart => exact ⟨0, M, by omega, rfl, Lib.hid (World.ownsRow_nil _ _ _ _), Lib.hid ⟨HX.out.1, HX.out.2.1, Ext.refl _, by simp⟩, Fr.refl _ _⟩
      case round =>
        obtain ⟨j, Mj, hj, rfl, hown, HJ, hfr⟩ := hrel
        obtain ⟨c4, c5, hs⟩ := HCl.out wr hfr
        have hsz := hfr.size
        by_cases hjl : j < src.length
        · obtain ⟨b2, of2, cp2, hv, hc2, hcl2⟩ := Sl.at hs (by omega)
          injection hv with hv1 _ hv3
          subst hv1 hv3
          obtain ⟨d0, d1, d2⟩ := src_cells hcl2 j hjl
          have hsk := HS.out src[j] (List.getElem_mem _)
          have hmem : src[j] ∈ src := List.getElem_mem _
          have htk : src.take (j + 1) = src.take j ++ [src[j]] := List.take_succ_eq_append_getElem hjl
          have hcall := fun w1 M1 => HI.out src[j] w1 M1 hmem
          have HB : Hid (∀ M1, I64 ((src.take (j + 1)).map (srcV M1)) = I64 ((src.take j).map (srcV M1)) ++ [.int .i64 (srcV M1 src[j])]) := Lib.hid fun M1 => by rw [htk]; simp only [I64, List.map_append, List.map_cons, List.map_nil]
          have HMm : Hid (∀ s ∈ src.take (j + 1), s ∈ src.take j ∨ s = src[j]) := Lib.hid fun s hs => by rw [htk] at hs; exact (List.mem_append.1 hs).imp id List.mem_singleton.1
          clear hcl2 htk hmem hs
          have hbox : Fr (· = G) w (wr.alloc (.cells #[.int .i64 src[j].op, .int .i64 src[j].val, .int .i64 src[j].hops] 52)) := hfr.alloc _
          generalize src[j] = s at *
          obtain ⟨so, sv, sh⟩ := s
          simp only at *
          by_cases hneg : so < 0
          · have hsv : ∀ M1, srcV M1 ⟨so, sv, sh⟩ = sv := fun M1 => if_pos hneg
            have HB1 := Lib.hid (HB.out Mj)
            rw [hsv] at HB1
            have HM1 : Hid (∀ s ∈ src.take (j + 1), 0 ≤ s.op → Rng (Mj s.op.toNat)) := Lib.hid fun s hs h0 => by
              rcases HMm.out s hs with h | rfl
              · exact HJ.out.2.2.2 s h h0
              · simp only at h0; omega
            clear hsk hcall hsv
            go_wp2_with (first
              | (at_builtin; go_must (refine wpList_pushF rfl _ _ _ rfl slT25 _ rfl (hown.out.alloc _) rfl (by simp) rfl (by omega) (by omega) hbox (Nat.le_refl _) (by simp; omega) _ HB1.out.symm ?_); intro v' w3 hown2 hb3 hk3))
            have hA3 : ArrV w3 G p.length Mj := HJ.out.1.of_block ((hk3 G hGw).trans (heap_alloc_old _ _ (by omega)))
            go_roundw
            case rel => exact ⟨j + 1, Mj, by omega, by go_num, Lib.hid hown2, Lib.hid ⟨hA3, HJ.out.2.1, HJ.out.2.2.1, HM1.out⟩, hb3⟩
            case measure => simp [intOf]; omega
          · have h3 : 0 ≤ so ∧ so < p.length := by
              rcases hsk with ⟨h, _⟩ | h
              · omega
              · exact ⟨h.1, h.2.1⟩
            have hbx := fun o => hfr.alloc o
            have hcall' := Lib.hid (hcall _ Mj (by simpa using h3.1) (HJ.out.1.of_block (heap_alloc_old _ _ (by omega))) HJ.out.2.1 (HX.out.2.2.trans hbox))
            have hsv : ∀ M1, srcV M1 ⟨so, sv, sh⟩ = M1 so.toNat := fun M1 => if_neg hneg
            clear hsk hcall
            have hnd : decide (so < 0) = false := by simpa using hneg
            unfold ValPost at hcall'
            go_wp2_with (first
              | (go_at_call 55; refine hcall'.out.mono ?_; rintro e w5 ⟨M5, rfl, hr5, hC5, hE5, hA5, hf5⟩; have hown5 : Hid (w5.ownsRow w.heap.size 3 1 _ j (I64 ((src.take j).map (srcV M5)))) := Lib.hid (by rw [srcV_ext hE5 HJ.out.2.2.2]; exact own_fr (hown.out.alloc _) hGw hf5); have HB5 := Lib.hid (HB.out M5); rw [hsv] at HB5; have hbox5 := hbox.trans hf5; generalize hz : M5 so.toNat = z5 at *)
              | (at_builtin; go_must (refine wpList_pushF rfl _ _ _ rfl slT25 _ rfl hown5.out rfl (by simp) rfl (by omega) (by omega) hbox5 (Nat.le_refl _) (by have := hbox5.size; omega) _ HB5.out.symm ?_); intro v' w3 hown2 hb3 hk3))
            have hA3 : ArrV w3 G p.length M5 := hA5.of_block (hk3 G hGw)
            have HM1 : Hid (∀ s ∈ src.take (j + 1), 0 ≤ s.op → Rng (M5 s.op.toNat)) := Lib.hid fun s hs h0 => by
              rcases HMm.out s hs with h | rfl
              · exact hE5.rng (HJ.out.2.2.2 s h h0)
              · simp only; rw [hz]; exact hr5
            go_roundw
            case rel => exact ⟨j + 1, M5, by omega, by go_num, Lib.hid hown2, Lib.hid ⟨hA3, hC5, HJ.out.2.2.1.trans hE5, HM1.out⟩, hb3⟩
            case measure => simp [intOf]; omega
        · obtain rfl : j = src.length := by omega
          have hJ := HJ.out
          rw [List.take_length] at hJ
          obtain ⟨hAj, hCj, hEj, hRj⟩ := hJ
          have hownj := hown.out
          rw [List.take_length] at hownj
          have hrl : ∀ x ∈ src.map (srcV Mj), Rng x := fun x hx => by
            obtain ⟨s, hs, rfl⟩ := List.mem_map.1 hx
            unfold srcV
            split
            · rcases HS.out s hs with h | h <;> exact ⟨by omega, by omega⟩
            · exact hRj s hs (by omega)
          have hAp := Lib.hid (fun vl (h : IsInts wr vl (src.map (srcV Mj))) => Apply_any kd _ vl wr h hkd (by rw [List.length_map]; exact hln) hrl)
          rw [vat_src, vat_src, vat_src] at hAp
          obtain ⟨hC6, hE6⟩ := HF.out Mj hCj hRj
          have hxr := appl_rng kd (srcN Mj src 0) (srcN Mj src 1) (srcN Mj src 2)
          have hII := Lib.hid (show IsInts wr _ (src.map (srcV Mj)) from by unfold IsInts; rw [List.length_map]; exact Sl.of_own hownj)
          have HZ := Lib.hid (And.intro hAj (And.intro hC6 (And.intro (hEj.trans hE6) hxr)))
          clear hown HJ hownj hrl hAj hCj hEj hRj hC6 hE6 hxr
          generalize hx : appl kd (srcN Mj src 0) (srcN Mj src 1) (srcN Mj src 2) = x at *
          clear hx
          go_wp2_with (first
            | (go_at_call 67; refine (hAp.out _ hII.out).mono ?_; rintro e w6 ⟨rfl, h6⟩; have hA6 : ArrV w6 G p.length Mj := HZ.out.1.of_block (h6.block _ (by omega)); have hx6 := hA6.cell hi; have hf6 := hA6.frozen i; have hA7 := Lib.hid (hA6.set i x); clear hA6))
          go_ret
          exact ⟨upd Mj i x, by rw [upd_same]; rfl, by rw [upd_same]; exact HZ.out.2.2.2, HZ.out.2.1, HZ.out.2.2.1, hA7.out, (hfr.trans (Fr.of_below h6)).setCell rfl _⟩
end Go.Proofs.Ytmjdmpapickgkaa

namespace Go.Proofs.Ytmjdmpapickgkaa
open Go.RowKit Go.Kk

def ErrPost (er : Int) (w : World) (e : Ending) (w' : World) : Prop := e = .returned (.tuple #[.slice none 0 0, .int .i64 er]) ∧ Below w.heap.size w w'
def ValsPost (p : List Opn) (w : World) (e : Ending) (w' : World) : Prop :=
  ∃ G V, e = .returned (.tuple #[rowV G p.length, .int .i64 0]) ∧ w.heap.size ≤ G ∧ ArrV w' G p.length V ∧ (∀ i, i < p.length → IsValAt p V i) ∧ (∀ i, i < p.length → Rng (V i)) ∧ Below w.heap.size w w'

theorem meetV_some {p : List Opn} (h : meets p ≠ none) : ∃ a b : Int, meetV p = .tuple #[.int .i64 a, .int .i64 b, .bool true] := by
  unfold meetV
  cases hm : meets p with
  | none => exact absurd hm h
  | some i => exact ⟨_, _, rfl⟩
theorem meetV_none {p : List Opn} (h : meets p = none) : meetV p = .tuple #[.int .i64 0, .int .i64 0, .bool false] := by unfold meetV; rw [h]

set_option maxHeartbeats 400000 in
theorem refrun_bad (p : List Opn) (v : Value) (w : World) (hl : IsProg w v p) (hlen : Narrow p) (hok : okProg p = false) : Calls Try.prog 35 #[v] w (ErrPost 80 w) := by
  have HV := Lib.hid (refValid_any p v w hl hlen)
  rw [hok] at HV
  clear hl hok
  go_enter Try.func35, Try.ntmps35
  go_wp2_with (first | (go_at_call 17; refine HV.out.mono ?_; rintro e w1 ⟨rfl, h1⟩))
  go_ret2
  exact ⟨rfl, h1⟩

set_option maxHeartbeats 400000 in
theorem refrun_busy (p : List Opn) (v : Value) (w : World) (hl : IsProg w v p) (hok : okProg p = true) (hm : meets p ≠ none) : Calls Try.prog 35 #[v] w (ErrPost 81 w) := by
  have HV := Lib.hid (refValid_any p v w hl (okProg_narrow hok))
  rw [hok] at HV
  have HM := Lib.hid (fun w1 (hb : Below w.heap.size w w1) => refMeet_any p v w1 (hl.keeps (Keeps.of_below hb)) hok)
  obtain ⟨a, b, hab⟩ := meetV_some hm
  rw [hab] at HM
  clear hl hok hm hab
  go_enter Try.func35, Try.ntmps35
  go_wp2_with (first
    | (go_at_call 17; refine HV.out.mono ?_; rintro e w1 ⟨rfl, h1⟩)
    | (go_at_call 41; refine (HM.out _ h1).mono ?_; rintro e w2 ⟨rfl, h2⟩))
  go_ret2
  exact ⟨rfl, h1.trans (h2.mono h1.size)⟩

set_option maxHeartbeats 400000 in
theorem refrun_wait (p : List Opn) (v : Value) (w : World) (hl : IsProg w v p) (hok : okProg p = true) (hm : meets p = none) (hw : waitL p ≠ []) : Calls Try.prog 35 #[v] w (ErrPost 82 w) := by
  have HV := Lib.hid (refValid_any p v w hl (okProg_narrow hok))
  rw [hok] at HV
  have HM := Lib.hid (fun w1 (hb : Below w.heap.size w w1) => refMeet_any p v w1 (hl.keeps (Keeps.of_below hb)) hok)
  rw [meetV_none hm] at HM
  have HW := Lib.hid (fun w1 (hb : Below w.heap.size w w1) => refwaits_any p v w1 (hl.keeps (Keeps.of_below hb)) hok)
  have hpos : 0 < (ints (waitL p)).length := by simp only [ints, List.length_map]; exact List.length_pos_iff.2 hw
  have hle : (ints (waitL p)).length ≤ 4000 := by have h1 : (waitL p).length ≤ p.length := filter_len (fun i => waitsB (timeOf p) (opn p i)) p.length; have := okProg_len hok; simp only [ints, List.length_map]; omega
  clear hl hok hm hw
  go_enter Try.func35, Try.ntmps35
  go_wp2_with (first
    | (go_at_call 17; refine HV.out.mono ?_; rintro e w1 ⟨rfl, h1⟩)
    | (go_at_call 41; refine (HM.out _ h1).mono ?_; rintro e w2 ⟨rfl, h2⟩; have h2' := h1.trans (h2.mono h1.size))
    | (go_at_call 43; refine (HW.out _ h2').mono ?_; rintro e w3 ⟨v', rfl, hv, h3⟩; obtain ⟨bv, cv, rfl⟩ := hv.shape))
  go_ret2
  exact ⟨rfl, h2'.trans (h3.mono h2'.size)⟩

set_option maxRecDepth 100000 in
set_option maxHeartbeats 2000000 in
theorem refrun_ok (p : List Opn) (v : Value) (w : World) (hl : IsProg w v p) (hok : okProg p = true) (hm : meets p = none) (hw : waitL p = []) (h60 : p.length ≤ 60) : Calls Try.prog 35 #[v] w (ValsPost p w) := by
  obtain ⟨bs, cq, hval⟩ := hl.1.shape
  subst hval
  obtain ⟨i0, hi, hz0, hz1, hz2⟩ := info_parts (show (Try.prog.info? 3).map (fun i => (i.zero, i.size, i.bytes)) = some (some (.int .i64 0), 1, 8) by kernel_rfl)
  have hu : Try.prog.underlying 25 = some (.slice 3) := by kernel_rfl
  have HV := Lib.hid (refValid_any p _ w hl (okProg_narrow hok))
  rw [hok] at HV
  have HM := Lib.hid (fun w1 (hb : Below w.heap.size w w1) => refMeet_any p _ w1 (hl.keeps (Keeps.of_below hb)) hok)
  rw [meetV_none hm] at HM
  have HW := Lib.hid (fun w1 (hb : Below w.heap.size w w1) => refwaits_any p _ w1 (hl.keeps (Keeps.of_below hb)) hok)
  have hwl : (ints (waitL p)).length = 0 := by rw [hw]; rfl
  have HR := Lib.hid (ready_of hok hw)
  have HL := Lib.hid hl
  have HO := Lib.hid hok
  clear hl hok hm hw
  go_enter Try.func35, Try.ntmps35
  go_wp2_with (first
    | (go_at_call 17; refine HV.out.mono ?_; rintro e w1 ⟨rfl, h1⟩)
    | (go_at_call 41; refine (HM.out _ h1).mono ?_; rintro e w2 ⟨rfl, h2⟩; have h2' := h1.trans (h2.mono h1.size))
    | (go_at_call 43; refine (HW.out _ h2').mono ?_; rintro e w3 ⟨v', rfl, hv, h3⟩; obtain ⟨bv, cv, rfl⟩ := hv.shape; have h3' := h2'.trans (h3.mono h2'.size); rw [hwl])
    | (at_make; refine wpList_make_full _ rfl _ _ 25 rfl w3.heap.size 3 i0 (.int .i64 0) 1 hu hi hz0 hz1 .i64 .i64 _ _ p.length rfl rfl rfl rfl (by rw [hz2]; omega) (by unfold maxLen; omega) (by simp) ?_; intro w4 hown hgrow))
  have hA4 : Hid (ArrV w4 w3.heap.size p.length (fun _ => 0)) := Lib.hid (by
    obtain ⟨_, hA⟩ := arr_of_made hown (by simp only [madeCells, Value.cells]; apply List.ext_getElem <;> simp [Nat.mod_one])
    unfold ArrV
    rw [hA]
    congr 2
    apply Array.ext <;> simp)
  have hb4 : Below w.heap.size w w4 := h3'.grown hgrow h3'.size (by simp)
  have hs3 := h3'.size
  have hw34 : w3.heap.size < w4.heap.size := heap_lt hA4.out
  clear hown hgrow h1 h2 h2' h3 h3' hwl hv
  generalize w3.heap.size = G at *
  go_loopw [8] (fun vi wr => ∃ k : Nat, k ≤ p.length ∧ vi = .int .i64 k ∧ Hid (ArrV wr G p.length (fun i => if i < k then -1 else 0)) ∧ Fr (· = G) w4 wr) (fun vi _ => p.length - (intOf vi).toNat)
  case atStart => exact ⟨0, by omega, rfl, Lib.hid (by simpa using hA4.out), Fr.refl _ _⟩
  case round =>
    clear hA4
    obtain ⟨k, hk, rfl, HA, hfr⟩ := hrel
    by_cases hlt : k < p.length
    · have c := HA.out.cell hlt
      have f := HA.out.frozen k
      have HA2 : Hid (ArrV (wr.setCell ⟨G, k, none⟩ (.int .i64 (-1))) G p.length (fun i => if i < k + 1 then -1 else 0)) := Lib.hid (by
        have h1 := HA.out.set k (-1)
        have h2 : upd (fun i => if i < k then (-1 : Int) else 0) k (-1) = fun i => if i < k + 1 then -1 else 0 := by
          funext j
          unfold upd
          by_cases e : j = k
          · subst e; simp
          · rw [if_neg e]; dsimp only; by_cases h : j < k
            · rw [if_pos h, if_pos (by omega)]
            · rw [if_neg h, if_neg (by omega)]
        rwa [h2] at h1)
      have hfr2 := hfr.setCell (a := ⟨G, k, none⟩) rfl (.int .i64 (-1))
      simp only [Nat.lt_irrefl, if_false] at c
      go_wp2
      go_roundw
      case rel => exact ⟨k + 1, by omega, by go_num, HA2, hfr2⟩
      case measure => simp [intOf]; omega
    · obtain rfl : k = p.length := by omega
      have HA2 : Hid (∃ M, ArrV wr G p.length M ∧ Cl p M) := Lib.hid ⟨fun i => if i < p.length then -1 else 0, HA.out, fun j hj => .inl (if_pos hj)⟩
      clear HA
      go_wp2
      obtain ⟨w5, hw5⟩ : ∃ x, x = wr := ⟨wr, rfl⟩
      subst hw5
      go_loopw [9] (fun vi wr => ∃ (k : Nat) (M : Nat → Int), k ≤ p.length ∧ vi = .int .i64 k ∧ Hid (ArrV wr G p.length M) ∧ Hid (Cl p M) ∧ Hid (∀ j, j < k → Rng (M j)) ∧ Fr (· = G) w4 wr) (fun vi _ => p.length - (intOf vi).toNat)
      case atStart =>
        obtain ⟨M, h1, h2⟩ := HA2.out
        exact ⟨0, M, by omega, rfl, Lib.hid h1, Lib.hid h2, Lib.hid fun j hj => by omega, hfr⟩
      case round =>
        clear HA2 hfr
        obtain ⟨k, M, hk, rfl, HA, HC, HR2, hfr⟩ := hrel
        by_cases hlt : k < p.length
        · have hcall := Lib.hid (value_any p (.slice bs p.length cq) G HO.out HR.out _ k wr M hlt (Nat.lt_succ_self _) HA.out HC.out ((PX.of HL.out hb4 hs3).trans hfr))
          unfold ValPost at hcall
          go_wp2_with (go_at_call 55; refine hcall.out.mono ?_; rintro e w6 ⟨M6, rfl, hr6, hC6, hE6, hA6, hf6⟩; generalize hz : M6 k = z6 at *)
          go_roundw
          case rel => exact ⟨k + 1, M6, by omega, by go_num, Lib.hid hA6, Lib.hid hC6, Lib.hid fun j hj => by
            by_cases e : j = k
            · subst e; rw [hz]; exact hr6
            · exact hE6.rng (HR2.out j (by omega)), hfr.trans hf6⟩
          case measure => simp [intOf]; omega
        · obtain rfl : k = p.length := by omega
          go_wp2
          go_ret2
          refine ⟨G, M, rfl, hs3, HA.out, fun i hi => ?_, HR2.out, hb4.trans (hfr.below hb4.size (fun k hk => by omega))⟩
          rcases HC.out i hi with h | h
          · exact absurd h (HR2.out i hi).ne
          · exact h.2.1
end Go.Proofs.Ytmjdmpapickgkaa

namespace Go.Proofs.Ytmjdmpapickgkaa
open Go.RowKit Go.Kk

open Classical in
/-- the values of a program -/
noncomputable def theV (p : List Opn) : Nat → Int := if h : ∃ V : Nat → Int, ∀ i, i < p.length → IsValAt p V i ∧ Rng (V i) then Classical.choose h else fun _ => 0
theorem theV_eq {p : List Opn} (hok : okProg p = true) (hw : waitL p = []) {V : Nat → Int} (h1 : ∀ i, i < p.length → IsValAt p V i) (h2 : ∀ i, i < p.length → Rng (V i)) : ∀ i, i < p.length → V i = theV p i := by
  have hex : ∃ V : Nat → Int, ∀ i, i < p.length → IsValAt p V i ∧ Rng (V i) := ⟨V, fun i hi => ⟨h1 i hi, h2 i hi⟩⟩
  have hs := Classical.choose_spec hex
  unfold theV
  rw [dif_pos hex]
  exact val_unique hok (ready_of hok hw) h1 (fun i hi => (hs i hi).1)
theorem theV_spec {p : List Opn} {V : Nat → Int} (h1 : ∀ i, i < p.length → IsValAt p V i) (h2 : ∀ i, i < p.length → Rng (V i)) : ∀ i, i < p.length → IsValAt p (theV p) i ∧ Rng (theV p i) := by
  have hex : ∃ V : Nat → Int, ∀ i, i < p.length → IsValAt p V i ∧ Rng (V i) := ⟨V, fun i hi => ⟨h1 i hi, h2 i hi⟩⟩
  have hs := Classical.choose_spec hex
  unfold theV
  rw [dif_pos hex]
  exact hs
noncomputable def untilV (p : List Opn) (time : Int) (i : Nat) : Int := if time < (opn p i).time then -1 else theV p i
theorem ArrV.congr {w : World} {G n : Nat} {V V' : Nat → Int} (h : ArrV w G n V) (e : ∀ i, i < n → V i = V' i) : ArrV w G n V' := by
  unfold ArrV at *
  rw [h]
  congr 2
  apply Array.ext
  · simp
  · intro i h1 h2
    simp only [Array.getElem_map, Array.getElem_range]
    rw [e i (by simpa using h1)]
theorem ArrV.alloc' {w : World} {G n : Nat} {V : Nat → Int} (h : ArrV w G n V) (o : Obj) : ArrV (w.alloc o) G n V := h.of_block (heap_alloc_old _ _ (heap_lt h))
/-- what runs to its end -/
structure Runs (p : List Opn) : Prop where
  ok : okProg p = true
  free : meets p = none
  ready : waitL p = []

/-- the values until a time, in a row of its own; the program has values -/
def UntilPost (p : List Opn) (time : Int) (w : World) (e : Ending) (w' : World) : Prop :=
  ∃ G, e = .returned (.tuple #[rowV G p.length, .int .i64 0]) ∧ w.heap.size ≤ G ∧ ArrV w' G p.length (untilV p time) ∧ (∀ i, i < p.length → IsValAt p (theV p) i ∧ Rng (theV p i)) ∧ Below w.heap.size w w'

set_option maxHeartbeats 400000 in
theorem until_bad (p : List Opn) (v : Value) (time : Int) (w : World) (hl : IsProg w v p) (hlen : Narrow p) (hok : okProg p = false) : Calls Try.prog 14 #[v, .int .i64 time] w (ErrPost 80 w) := by
  have HV := Lib.hid (valid_any p v w hl hlen)
  rw [hok] at HV
  clear hl hok
  go_enter Try.func14, Try.ntmps14
  go_wp2_with (first | (go_at_call 22; refine HV.out.mono ?_; rintro e w1 ⟨rfl, h1⟩))
  go_ret2
  exact ⟨rfl, h1⟩

set_option maxHeartbeats 400000 in
theorem until_busy (p : List Opn) (v : Value) (time : Int) (w : World) (hl : IsProg w v p) (hok : okProg p = true) (hm : meets p ≠ none) : Calls Try.prog 14 #[v, .int .i64 time] w (ErrPost 81 w) := by
  have HV := Lib.hid (valid_any p v w hl (okProg_narrow hok))
  rw [hok] at HV
  have HM := Lib.hid (fun w1 (hb : Below w.heap.size w w1) => meet_any p v w1 (hl.keeps (Keeps.of_below hb)) hok)
  obtain ⟨a, b, hab⟩ := meetV_some hm
  rw [hab] at HM
  clear hl hok hm hab
  go_enter Try.func14, Try.ntmps14
  go_wp2_with (first
    | (go_at_call 22; refine HV.out.mono ?_; rintro e w1 ⟨rfl, h1⟩)
    | (go_at_call 36; refine (HM.out _ h1).mono ?_; rintro e w2 ⟨rfl, h2⟩))
  go_ret2
  exact ⟨rfl, h1.trans (h2.mono h1.size)⟩

set_option maxHeartbeats 400000 in
theorem until_wait (p : List Opn) (v : Value) (time : Int) (w : World) (hl : IsProg w v p) (hok : okProg p = true) (hm : meets p = none) (hw : waitL p ≠ []) : Calls Try.prog 14 #[v, .int .i64 time] w (ErrPost 82 w) := by
  have HV := Lib.hid (valid_any p v w hl (okProg_narrow hok))
  rw [hok] at HV
  have HM := Lib.hid (fun w1 (hb : Below w.heap.size w w1) => meet_any p v w1 (hl.keeps (Keeps.of_below hb)) hok)
  rw [meetV_none hm] at HM
  have HW := Lib.hid (fun w1 (hb : Below w.heap.size w w1) => ready_any p v w1 (hl.keeps (Keeps.of_below hb)) (okProg_narrow hok))
  have hre : readyE p = 82 := by unfold readyE; rw [if_pos hok, if_neg (fun h => hw (List.eq_nil_of_length_eq_zero h))]
  rw [hre] at HW
  clear hl hok hm hw hre
  go_enter Try.func14, Try.ntmps14
  go_wp2_with (first
    | (go_at_call 22; refine HV.out.mono ?_; rintro e w1 ⟨rfl, h1⟩)
    | (go_at_call 36; refine (HM.out _ h1).mono ?_; rintro e w2 ⟨rfl, h2⟩; have h2' := h1.trans (h2.mono h1.size))
    | (go_at_call 37; refine (HW.out _ h2').mono ?_; rintro e w3 ⟨rfl, h3⟩))
  go_ret2
  exact ⟨rfl, h2'.trans (h3.mono h2'.size)⟩

/-- the first k cells as of a time -/
theorem cut_step (p : List Opn) (time : Int) (V : Nat → Int) (k : Nat) (h : time < (opn p k).time) : upd (fun i => if i < k ∧ time < (opn p i).time then -1 else V i) k (-1) = fun i => if i < k + 1 ∧ time < (opn p i).time then -1 else V i := by
  funext j
  unfold upd
  by_cases e : j = k
  · subst e; simp [h]
  · rw [if_neg e]
    by_cases h1 : j < k
    · simp [h1, show j < k + 1 by omega]
    · simp [h1, show ¬ j < k + 1 by omega]
theorem cut_skip (p : List Opn) (time : Int) (V : Nat → Int) (k : Nat) (h : ¬ time < (opn p k).time) : (fun i => if i < k ∧ time < (opn p i).time then -1 else V i) = fun i => if i < k + 1 ∧ time < (opn p i).time then -1 else V i := by
  funext j
  by_cases e : j = k
  · subst e; simp [h]
  · by_cases h1 : j < k
    · simp [h1, show j < k + 1 by omega]
    · simp [h1, show ¬ j < k + 1 by omega]

set_option maxRecDepth 100000 in
set_option maxHeartbeats 2000000 in
theorem until_ok (p : List Opn) (v : Value) (time : Int) (w : World) (hl : IsProg w v p) (hp : Runs p) (h60 : p.length ≤ 60) : Calls Try.prog 14 #[v, .int .i64 time] w (UntilPost p time w) := by
  obtain ⟨bs, cq, hval⟩ := hl.1.shape
  subst hval
  have HV := Lib.hid (valid_any p _ w hl (okProg_narrow hp.ok))
  rw [hp.ok] at HV
  have HM := Lib.hid (fun w1 (hb : Below w.heap.size w w1) => meet_any p _ w1 (hl.keeps (Keeps.of_below hb)) hp.ok)
  rw [meetV_none hp.free] at HM
  have HW := Lib.hid (fun w1 (hb : Below w.heap.size w w1) => ready_any p _ w1 (hl.keeps (Keeps.of_below hb)) (okProg_narrow hp.ok))
  have hre : readyE p = 0 := by unfold readyE; rw [if_pos hp.ok, hp.ready]; rfl
  rw [hre] at HW
  have HR := Lib.hid (fun w1 (hb : Below w.heap.size w w1) => run_any p _ w1 (hl.keeps (Keeps.of_below hb)) hp.ok hp.ready h60)
  have HL := Lib.hid hl
  have HP := Lib.hid hp
  clear hl hp hre
  unfold RunPost at HR
  go_enter Try.func14, Try.ntmps14
  go_wp2_with (first
    | (go_at_call 22; refine HV.out.mono ?_; rintro e w1 ⟨rfl, h1⟩)
    | (go_at_call 36; refine (HM.out _ h1).mono ?_; rintro e w2 ⟨rfl, h2⟩; have h2' := h1.trans (h2.mono h1.size))
    | (go_at_call 37; refine (HW.out _ h2').mono ?_; rintro e w3 ⟨rfl, h3⟩; have h3' := h2'.trans (h3.mono h2'.size))
    | (go_at_call 38; refine (HR.out _ h3').mono ?_; rintro e w4 ⟨G, V, rfl, hG, hA4, hIV, hRg, h4⟩; have h4' := h3'.trans (h4.mono h3'.size)))
  have hs3 := h3'.size
  have HZ := Lib.hid (And.intro hIV hRg)
  have HA4 := Lib.hid hA4
  clear h1 h2 h2' h3 h3' h4 hIV hRg hA4
  go_loopw [32] (fun vi wr => ∃ k : Nat, k ≤ p.length ∧ vi = .int .i64 k ∧ Hid (ArrV wr G p.length (fun i => if i < k ∧ time < (opn p i).time then -1 else V i)) ∧ Fr (· = G) w4 wr) (fun vi _ => p.length - (intOf vi).toNat)
  case atStart => exact ⟨0, by omega, rfl, Lib.hid (by simpa using HA4.out), Fr.refl _ _⟩
  case round =>
    clear HA4
    obtain ⟨k, hk, rfl, HA, hfr⟩ := hrel
    by_cases hlt : k < p.length
    · obtain ⟨b1, off, cp1, hv, hc, hcl⟩ := Sl.at HL.out.1 (by omega)
      injection hv with hv1 _ hv3
      subst hv1 hv3
      have hb0 : Below w.heap.size w wr := h4'.trans (hfr.below h4'.size (fun j hj => by omega))
      obtain ⟨c0, c1, c2, c3, c4, c5⟩ := op_cells (hcl.keeps (Keeps.of_below hb0)) k hlt
      have ho := opn_eq hlt
      obtain ⟨bh, ch, hoh⟩ := (HL.out.2 p[k] (List.getElem_mem _)).shape
      rw [← ho] at c0 c1 c2 c3 c4 c5 hoh
      have HS1 := Lib.hid (cut_step p time V k)
      have HS2 := Lib.hid (cut_skip p time V k)
      have HAx := HA.out.alloc' (.cells #[.int .i64 (opn p k).time, .int .i64 (opn p k).c0, .int .i64 (opn p k).c1, .int .i64 (opn p k).unit, .int .i64 (opn p k).kind, (opn p k).h] 37)
      clear hcl ho
      generalize hoo : opn p k = o at *
      obtain ⟨t, a0, a1, u, kd, oh, src⟩ := o
      simp only at *
      subst hoh
      have c := HAx.cell hlt
      have f := HAx.frozen k
      have HG := Lib.hid (HAx.set k (-1))
      have HGn := Lib.hid HAx
      clear HAx hoo
      by_cases htt : time < t
      · rw [HS1.out htt] at HG
        clear HGn
        go_wp2
        go_roundw
        case rel => exact ⟨k + 1, by omega, by go_num, HG, (hfr.alloc _).setCell (a := ⟨G, k, none⟩) rfl _⟩
        case measure => simp [intOf]; omega
      · rw [HS2.out htt] at HGn
        clear HG
        go_wp2
        go_roundw
        case rel => exact ⟨k + 1, by omega, by go_num, HGn, hfr.alloc _⟩
        case measure => simp [intOf]; omega
    · obtain rfl : k = p.length := by omega
      go_wp2
      go_ret2
      have hs := theV_spec HZ.out.1 HZ.out.2
      have he := theV_eq HP.out.ok HP.out.ready HZ.out.1 HZ.out.2
      refine ⟨G, rfl, by omega, HA.out.congr fun i hi => ?_, hs, h4'.trans (hfr.below h4'.size (fun j hj => by omega))⟩
      unfold untilV
      rw [← he i hi]
      simp [hi]
end Go.Proofs.Ytmjdmpapickgkaa
