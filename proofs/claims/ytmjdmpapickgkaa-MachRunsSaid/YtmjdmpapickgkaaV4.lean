import Derived.Test.YtmjdmpapickgkaaV3
namespace Go.Proofs.Ytmjdmpapickgkaa
open Go.RowKit Go.Kk

/-- p is read the same as long as only block G turns -/
def PX (w : World) (v : Value) (p : List Opn) (G : Nat) : Prop := ∀ w1, Fr (· = G) w w1 → IsProg w1 v p
theorem PX.trans {w w1 : World} {v : Value} {p : List Opn} {G : Nat} (h : PX w v p G) (k : Fr (· = G) w w1) : PX w1 v p G := fun w2 h2 => h w2 (k.trans h2)
theorem PX.of {wb w : World} {v : Value} {p : List Opn} {G : Nat} (h : IsProg wb v p) (hb : Below wb.heap.size wb w) (hG : wb.heap.size ≤ G) : PX w v p G := fun w1 h1 =>
  h.keeps (Keeps.of_below (hb.trans (h1.below hb.size (fun k hk => by omega))))
theorem own_fr {w w1 : World} {G B : Nat} {e : TypeId} {sz : Nat} {v : Value} {n : Nat} {xs : List Value} (h : w.ownsRow B e sz v n xs) (hG : G < B) (k : Fr (· = G) w w1) : w1.ownsRow B e sz v n xs :=
  h.kept (row := some G) ⟨k.os, k.tape, k.output, k.size, fun j hj hn => k.block j hj (fun e => hn (by rw [e]))⟩ (by
    cases hv : v.ownBlock with
    | none => exact .inl rfl
    | some g => exact .inr fun e => by have := (h.lt g hv).1; cases e; omega)

theorem fr_grown {S : Nat → Prop} {A W w1 : World} {row : Option Nat} (h : Fr S A W) (hg : W.grownBy w1 row) (hr : ∀ k, row = some k → A.heap.size ≤ k) : Fr S A w1 :=
  ⟨hg.os.trans h.os, hg.tape.trans h.tape, hg.output.trans h.output, Nat.le_trans h.size hg.size, fun k hk hs => (hg.block k (Nat.lt_of_lt_of_le hk h.size) (fun e => by have := hr k e.symm; omega)).trans (h.block k hk hs)⟩
/-- 'out = append(out, y)', y in a new box; a frame -/
theorem wpList_pushF {P : Program} {W : World} {ops : Array Oper} {rest : List Oper} {o : Oper} {a : Act} {Q : Exit → Act → World → Prop} {y : Value} {e : TypeId} (hgd : o.guard = none) (s x : Operand) (t : TypeId) (ho : o.op = .call { callee := .builtin .append, args := #[s, x], argTypes := #[t, t] })
    {bytes : Nat} {z : Value} (T : SlT P t e 1 bytes z) {B : Nat} (v : Value) {n : Nat} {xs : List Value} (hs : a.eval s = v) (hown : W.ownsRow B e 1 v n xs) {b : Nat} (hx : a.eval x = .slice (some ⟨b, 0, none⟩) 1 1) (hb : b = W.heap.size) (hy : y.oneCell' = true)
    (hn : n + 1 ≤ 1000000) (hby : bytes ≤ 1000000) {A : World} {S : Nat → Prop} (hfr : Fr S A W) (hAB : A.heap.size ≤ B) (hB : B ≤ W.heap.size) (ys : List Value) (hys : xs ++ [y] = ys)
    (h : ∀ v' w', w'.ownsRow B e 1 v' (n + 1) ys → Fr S A w' → (∀ k, k < A.heap.size → w'.heap[k]? = W.heap[k]?) → wpList P ops Q rest (a.put o.dst v') w') : wpList P ops Q (o :: rest) a (W.alloc (.cells #[y] e)) := by
  have h1 : (n + 1) * bytes ≤ 1000000 * 1000000 := Nat.mul_le_mul hn hby
  refine wpList_append_at hgd s x t ho T v hs (hown.alloc _) hx (sl_new1 W b hb y e) (by simpa using hy) (by unfold maxLen; omega) (by omega) (by simp; omega) (n + 1) ys rfl hys fun v' w' ho' hg _ => h v' w' ho' (fr_grown (hfr.alloc _) hg fun j hj => by have := (hown.lt j hj).1; omega) fun k hk => ?_
  have := hfr.size
  rw [hg.block k (by simp; omega) (fun e => by have := (hown.lt k e.symm).1; omega), heap_alloc_old _ _ (by omega)]

def ValPost (p : List Opn) (G i : Nat) (w : World) (M : Nat → Int) (e : Ending) (w' : World) : Prop :=
  ∃ M', e = .returned (.int .i64 (M' i)) ∧ Rng (M' i) ∧ Cl p M' ∧ Ext M M' ∧ ArrV w' G p.length M' ∧ Fr (· = G) w w'

set_option maxRecDepth 100000 in
set_option maxHeartbeats 4000000 in
theorem value_any (p : List Opn) (v : Value) (G : Nat) (hok : okProg p = true) (hr : Ready p) (m : Nat) : ∀ (i : Nat) (w : World) (M : Nat → Int), i < p.length → (timeOf p i + 100000).toNat < m → ArrV w G p.length M → Cl p M → PX w v p G →
    Calls Try.prog 55 #[v, .int .i64 i, rowV G p.length] w (ValPost p G i w M) := by
  induction m with
  | zero => intro i w M _ h; omega
  | succ m ih =>
    intro i w M hi hm hA hC hP
    have hl := hP w (Fr.refl _ _)
    obtain ⟨bs, cq, hval⟩ := hl.1.shape
    subst hval
    have hlp := okProg_len hok
    have hGw := heap_lt hA
    have hil : (i : Int) < (p.length : Int) := by omega
    by_cases hM : M i = -1
    rotate_left
    · have hrg : Rng (M i) := by
        rcases hC i hi with h | h
        · exact absurd h hM
        · exact h.1
      have c := hA.cell hi
      have HX := Lib.hid (And.intro hA hC)
      have HM : Hid (∃ M', M i = M' i ∧ Rng (M' i) ∧ Cl p M' ∧ Ext M M' ∧ ArrV w G p.length M') := Lib.hid ⟨M, rfl, hrg, hC, Ext.refl _, hA⟩
      unfold Rng at hrg
      generalize M i = x at *
      have hx : decide (0 ≤ x) = true := by simpa using hrg.1
      clear hl hA hC hP ih hM HX hok hr
      go_enter Try.func55, Try.ntmps55
      go_wp2
      go_ret
      obtain ⟨M', h1, h2, h3, h4, h5⟩ := HM.out
      exact ⟨M', by rw [← h1]; rfl, h2, h3, h4, h5, Fr.refl _ _⟩
    · have c := hA.cell hi
      rw [hM] at c
      have hoo := okProg_op hok i hi
      have ho := opn_eq hi
      rw [← ho] at hoo
      have hti := timeOf_bd hok i hi
      have hrd := hr i hi
      have hsrc := hoo.src
      have hlen := hoo.len3
      have hkd := hoo.k
      have hln := hoo.len
      -- the recursion, by need
      have HI : Hid (∀ (s : Src) (w1 : World) (M1 : Nat → Int), s ∈ (opn p i).src → 0 ≤ s.op → ArrV w1 G p.length M1 → Cl p M1 → PX w1 (.slice bs p.length cq) p G → Calls Try.prog 55 #[.slice bs p.length cq, .int .i64 s.op, rowV G p.length] w1 (ValPost p G s.op.toNat w1 M1)) := Lib.hid fun s w1 M1 hs h0 hA1 hC1 hP1 => by
        obtain ⟨h1, h2⟩ := hrd s hs h0
        obtain ⟨j, hj⟩ := Int.eq_ofNat_of_zero_le h0
        rw [hj] at h1 h2 ⊢
        simp only [Int.toNat_natCast] at h1 h2 ⊢
        have := timeOf_bd hok j h1
        exact ih j w1 M1 h1 (by omega) hA1 hC1 hP1
      have HF : Hid (∀ (M1 : Nat → Int), Cl p M1 → (∀ s ∈ (opn p i).src, 0 ≤ s.op → Rng (M1 s.op.toNat)) → _) := Lib.hid fun M1 h1 h2 => h1.form hi h2
      have hop : ∃ b1 off, bs = some ⟨b1, off, none⟩ := by
        obtain ⟨b1, off, cp1, hv, _⟩ := Sl.at hl.1 (by omega)
        injection hv with hv1
        exact ⟨b1, off, hv1⟩
      obtain ⟨b1, off, rfl⟩ := hop
      have HCl : Hid (∀ w1, Fr (· = G) w w1 → w1.cell? ⟨b1, off + i * 6 + 4, none⟩ = some (.int .i64 (opn p i).kind) ∧ w1.cell? ⟨b1, off + i * 6 + 5, none⟩ = some (opn p i).h ∧ IsSrcs w1 (opn p i).h (opn p i).src) := Lib.hid fun w1 h1 => by
        have hl1 := hP w1 h1
        obtain ⟨b2, off2, cp2, hv, _, hcl⟩ := Sl.at hl1.1 (by omega)
        injection hv with hv1 _ hv3
        injection hv1 with hv1
        injection hv1 with hv1 hv2
        subst hv1 hv2 hv3
        obtain ⟨c0, c1, c2, c3, c4, c5⟩ := op_cells hcl i hi
        rw [ho]
        exact ⟨c4, c5, hl1.2 p[i] (List.getElem_mem _)⟩
      have HX := Lib.hid (And.intro hA (And.intro hC hP))
      clear hl hA hC hP ih hM hok hr hoo ho hrd
      generalize opn p i = o at *
      obtain ⟨t, a0, a1, u, kd, oh, src⟩ := o
      simp only at *
      obtain ⟨bh, ch, hoh⟩ := (HCl.out w (Fr.refl _ _)).2.2.shape
      subst hoh
      have HS := Lib.hid hsrc
      clear hsrc
      go_enter Try.func55, Try.ntmps55
      go_wp2
      go_loopw [7, 8] (fun vl vk wr => ∃ (j : Nat) (Mj : Nat → Int), j ≤ src.length ∧ vk = .int .i64 j ∧ Hid (wr.ownsRow w.heap.size 3 1 vl j (I64 ((src.take j).map (srcV Mj)))) ∧ Hid (ArrV wr G p.length Mj ∧ Cl p Mj ∧ Ext M Mj ∧ ∀ s ∈ src.take j, 0 ≤ s.op → Rng (Mj s.op.toNat)) ∧ Fr (· = G) w wr) (fun _ vk _ => src.length - (intOf vk).toNat)
      case atStart => exact ⟨0, M, by omega, rfl, Lib.hid (World.ownsRow_nil _ _ _ _), Lib.hid ⟨HX.out.1, HX.out.2.1, Ext.refl _, by simp⟩, Fr.refl _ _⟩
      case round =>
        obtain ⟨j, Mj, hj, rfl, hown, HJ, hfr⟩ := hrel
        obtain ⟨c4, c5, hs⟩ := HCl.out wr hfr
        have hsz := hfr.size
        by_cases hjl : j < src.length
        · obtain ⟨b2, of2, cp2, hv, hc2, hcl2⟩ := Sl.at hs (by omega)
          injection hv with hv1 _ hv3
          subst hv1 hv3
          obtain ⟨d0, d1, d2⟩ := src_cells hcl2 j hjl
          have hsk := HS.out src[j] (List.getElem_mem _)
          have hmem : src[j] ∈ src := List.getElem_mem _
          have htk : src.take (j + 1) = src.take j ++ [src[j]] := List.take_succ_eq_append_getElem hjl
          have hcall := fun w1 M1 => HI.out src[j] w1 M1 hmem
          have HB : Hid (∀ M1, I64 ((src.take (j + 1)).map (srcV M1)) = I64 ((src.take j).map (srcV M1)) ++ [.int .i64 (srcV M1 src[j])]) := Lib.hid fun M1 => by rw [htk]; simp only [I64, List.map_append, List.map_cons, List.map_nil]
          have HMm : Hid (∀ s ∈ src.take (j + 1), s ∈ src.take j ∨ s = src[j]) := Lib.hid fun s hs => by rw [htk] at hs; exact (List.mem_append.1 hs).imp id List.mem_singleton.1
          clear hcl2 htk hmem hs
          have hbox : Fr (· = G) w (wr.alloc (.cells #[.int .i64 src[j].op, .int .i64 src[j].val, .int .i64 src[j].hops] 52)) := hfr.alloc _
          generalize src[j] = s at *
          obtain ⟨so, sv, sh⟩ := s
          simp only at *
          by_cases hneg : so < 0
          · have hsv : ∀ M1, srcV M1 ⟨so, sv, sh⟩ = sv := fun M1 => if_pos hneg
            have HB1 := Lib.hid (HB.out Mj)
            rw [hsv] at HB1
            have HM1 : Hid (∀ s ∈ src.take (j + 1), 0 ≤ s.op → Rng (Mj s.op.toNat)) := Lib.hid fun s hs h0 => by
              rcases HMm.out s hs with h | rfl
              · exact HJ.out.2.2.2 s h h0
              · simp only at h0; omega
            clear hsk hcall hsv
            go_wp2_with (first
              | (at_builtin; go_must (refine wpList_pushF rfl _ _ _ rfl slT25 _ rfl (hown.out.alloc _) rfl (by simp) rfl (by omega) (by omega) hbox (Nat.le_refl _) (by simp; omega) _ HB1.out.symm ?_); intro v' w3 hown2 hb3 hk3))
            have hA3 : ArrV w3 G p.length Mj := HJ.out.1.of_block ((hk3 G hGw).trans (heap_alloc_old _ _ (by omega)))
            go_roundw
            case rel => exact ⟨j + 1, Mj, by omega, by go_num, Lib.hid hown2, Lib.hid ⟨hA3, HJ.out.2.1, HJ.out.2.2.1, HM1.out⟩, hb3⟩
            case measure => simp [intOf]; omega
          · have h3 : 0 ≤ so ∧ so < p.length := by
              rcases hsk with ⟨h, _⟩ | h
              · omega
              · exact ⟨h.1, h.2.1⟩
            have hbx := fun o => hfr.alloc o
            have hcall' := Lib.hid (hcall _ Mj (by simpa using h3.1) (HJ.out.1.of_block (heap_alloc_old _ _ (by omega))) HJ.out.2.1 (HX.out.2.2.trans hbox))
            have hsv : ∀ M1, srcV M1 ⟨so, sv, sh⟩ = M1 so.toNat := fun M1 => if_neg hneg
            clear hsk hcall
            have hnd : decide (so < 0) = false := by simpa using hneg
            unfold ValPost at hcall'
            go_wp2_with (first
              | (go_at_call 55; refine hcall'.out.mono ?_; rintro e w5 ⟨M5, rfl, hr5, hC5, hE5, hA5, hf5⟩; have hown5 : Hid (w5.ownsRow w.heap.size 3 1 _ j (I64 ((src.take j).map (srcV M5)))) := Lib.hid (by rw [srcV_ext hE5 HJ.out.2.2.2]; exact own_fr (hown.out.alloc _) hGw hf5); have HB5 := Lib.hid (HB.out M5); rw [hsv] at HB5; have hbox5 := hbox.trans hf5; generalize hz : M5 so.toNat = z5 at *)
              | (at_builtin; go_must (refine wpList_pushF rfl _ _ _ rfl slT25 _ rfl hown5.out rfl (by simp) rfl (by omega) (by omega) hbox5 (Nat.le_refl _) (by have := hbox5.size; omega) _ HB5.out.symm ?_); intro v' w3 hown2 hb3 hk3))
            have hA3 : ArrV w3 G p.length M5 := hA5.of_block (hk3 G hGw)
            have HM1 : Hid (∀ s ∈ src.take (j + 1), 0 ≤ s.op → Rng (M5 s.op.toNat)) := Lib.hid fun s hs h0 => by
              rcases HMm.out s hs with h | rfl
              · exact hE5.rng (HJ.out.2.2.2 s h h0)
              · simp only; rw [hz]; exact hr5
            go_roundw
            case rel => exact ⟨j + 1, M5, by omega, by go_num, Lib.hid hown2, Lib.hid ⟨hA3, hC5, HJ.out.2.2.1.trans hE5, HM1.out⟩, hb3⟩
            case measure => simp [intOf]; omega
        · obtain rfl : j = src.length := by omega
          have hJ := HJ.out
          rw [List.take_length] at hJ
          obtain ⟨hAj, hCj, hEj, hRj⟩ := hJ
          have hownj := hown.out
          rw [List.take_length] at hownj
          have hrl : ∀ x ∈ src.map (srcV Mj), Rng x := fun x hx => by
            obtain ⟨s, hs, rfl⟩ := List.mem_map.1 hx
            unfold srcV
            split
            · rcases HS.out s hs with h | h <;> exact ⟨by omega, by omega⟩
            · exact hRj s hs (by omega)
          have hAp := Lib.hid (fun vl (h : IsInts wr vl (src.map (srcV Mj))) => Apply_any kd _ vl wr h hkd (by rw [List.length_map]; exact hln) hrl)
          rw [vat_src, vat_src, vat_src] at hAp
          obtain ⟨hC6, hE6⟩ := HF.out Mj hCj hRj
          have hxr := appl_rng kd (srcN Mj src 0) (srcN Mj src 1) (srcN Mj src 2)
          have hII := Lib.hid (show IsInts wr _ (src.map (srcV Mj)) from by unfold IsInts; rw [List.length_map]; exact Sl.of_own hownj)
          have HZ := Lib.hid (And.intro hAj (And.intro hC6 (And.intro (hEj.trans hE6) hxr)))
          clear hown HJ hownj hrl hAj hCj hEj hRj hC6 hE6 hxr
          generalize hx : appl kd (srcN Mj src 0) (srcN Mj src 1) (srcN Mj src 2) = x at *
          clear hx
          go_wp2_with (first
            | (go_at_call 67; refine (hAp.out _ hII.out).mono ?_; rintro e w6 ⟨rfl, h6⟩; have hA6 : ArrV w6 G p.length Mj := HZ.out.1.of_block (h6.block _ (by omega)); have hx6 := hA6.cell hi; have hf6 := hA6.frozen i; have hA7 := Lib.hid (hA6.set i x); clear hA6))
          go_ret
          exact ⟨upd Mj i x, by rw [upd_same]; rfl, by rw [upd_same]; exact HZ.out.2.2.2, HZ.out.2.1, HZ.out.2.2.1, hA7.out, (hfr.trans (Fr.of_below h6)).setCell rfl _⟩
end Go.Proofs.Ytmjdmpapickgkaa
