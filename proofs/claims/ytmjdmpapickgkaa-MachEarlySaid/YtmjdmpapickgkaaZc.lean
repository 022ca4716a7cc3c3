import Derived.Test.YtmjdmpapickgkaaZb
import Derived.Deep.QuietTactic
import Derived.BigQuiet
namespace Go.Proofs.Ytmjdmpapickgkaa
open Go.RowKit Go.Kk

/-! Slack -/
theorem readyE_zero {p : List Opn} (h : readyE p = 0) : okProg p = true ∧ waitL p = [] := by
  unfold readyE at h
  split at h
  · rename_i h1
    split at h
    · rename_i h2
      exact ⟨h1, List.eq_nil_of_length_eq_zero h2⟩
    · omega
  · omega
theorem readyE_ok {p : List Opn} (h : okProg p = true) (hw : waitL p = []) : readyE p = 0 := by unfold readyE; rw [if_pos h, hw]; rfl
theorem readyE_wait {p : List Opn} (h : okProg p = true) (hw : waitL p ≠ []) : readyE p = 82 := by
  unfold readyE; rw [if_pos h, if_neg (fun e => hw (List.eq_nil_of_length_eq_zero e))]
theorem readyE_bad {p : List Opn} (h : okProg p = false) : readyE p = 80 := by unfold readyE; rw [if_neg (by simp [h])]

set_option maxHeartbeats 400000 in
theorem Slack_err (p : List Opn) (v : Value) (w : World) (hl : IsProg w v p) (hlen : Narrow p) (h : readyE p ≠ 0) : Calls Try.prog 25 #[v] w (ErrPost (readyE p) w) := by
  have HR := Lib.hid (ready_any p v w hl hlen)
  have hb : (readyE p != 0) = true := by simpa using h
  clear hl hlen h
  generalize readyE p = er at *
  go_enter Try.func25, Try.ntmps25
  go_wp2_with (first | (go_at_call 37; refine HR.out.mono ?_; rintro e w1 ⟨rfl, h1⟩))
  go_ret2
  exact ⟨rfl, h1⟩
set_option maxHeartbeats 400000 in
theorem Slack_ok (p : List Opn) (v : Value) (w : World) (hl : IsProg w v p) (hok : okProg p = true) (hw : waitL p = []) : Calls Try.prog 25 #[v] w (ListPost (slackL p) 0 w) := by
  have HR := Lib.hid (ready_any p v w hl (okProg_narrow hok))
  rw [readyE_ok hok hw] at HR
  have HS := Lib.hid (fun w1 (hb : Below w.heap.size w w1) => slacks_any p v w1 (hl.keeps (Keeps.of_below hb)) hok)
  clear hl hok hw
  go_enter Try.func25, Try.ntmps25
  go_wp2_with (first
    | (go_at_call 37; refine HR.out.mono ?_; rintro e w1 ⟨rfl, h1⟩)
    | (go_at_call 42; refine (HS.out _ h1).mono ?_; rintro e w2 ⟨v', rfl, hv, h2⟩))
  go_ret2
  exact ⟨_, rfl, hv, h1.trans (h2.mono h1.size)⟩

set_option maxHeartbeats 400000 in
theorem refSlack_bad (p : List Opn) (v : Value) (w : World) (hl : IsProg w v p) (hlen : Narrow p) (hok : okProg p = false) : Calls Try.prog 26 #[v] w (ErrPost 80 w) := by
  have HV := Lib.hid (refValid_any p v w hl hlen)
  rw [hok] at HV
  clear hl hok
  go_enter Try.func26, Try.ntmps26
  go_wp2_with (first | (go_at_call 17; refine HV.out.mono ?_; rintro e w1 ⟨rfl, h1⟩))
  go_ret2
  exact ⟨rfl, h1⟩
set_option maxHeartbeats 400000 in
theorem refSlack_wait (p : List Opn) (v : Value) (w : World) (hl : IsProg w v p) (hok : okProg p = true) (hw : waitL p ≠ []) : Calls Try.prog 26 #[v] w (ErrPost 82 w) := by
  have HV := Lib.hid (refValid_any p v w hl (okProg_narrow hok))
  rw [hok] at HV
  have HW := Lib.hid (fun w1 (hb : Below w.heap.size w w1) => refwaits_any p v w1 (hl.keeps (Keeps.of_below hb)) hok)
  have hpos : 0 < (ints (waitL p)).length := by simp only [ints, List.length_map]; exact List.length_pos_iff.2 hw
  have hle : (ints (waitL p)).length ≤ 4000 := by have h1 : (waitL p).length ≤ p.length := filter_len (fun i => waitsB (timeOf p) (opn p i)) p.length; have := okProg_len hok; simp only [ints, List.length_map]; omega
  clear hl hok hw
  go_enter Try.func26, Try.ntmps26
  go_wp2_with (first
    | (go_at_call 17; refine HV.out.mono ?_; rintro e w1 ⟨rfl, h1⟩)
    | (go_at_call 43; refine (HW.out _ h1).mono ?_; rintro e w3 ⟨v', rfl, hv, h3⟩; obtain ⟨bv, cv, rfl⟩ := hv.shape))
  go_ret2
  exact ⟨rfl, h1.trans (h3.mono h1.size)⟩

theorem slackI_ready {p : List Opn} (hw : waitL p = []) {k : Nat} (hk : k < p.length) : slackI (timeOf p) (opn p k) = match arr (timeOf p) (opn p k).src with | none => -1 | some u => (opn p k).time - u := by
  have h1 : waitsB (timeOf p) (opn p k) = false := by
    unfold waitL at hw
    rw [List.filter_eq_nil_iff] at hw
    simpa using hw k (by simpa using hk)
  unfold slackI
  unfold waitsB at h1
  cases ha : arr (timeOf p) (opn p k).src with
  | none => rfl
  | some u =>
    rw [ha] at h1
    simp only [decide_eq_false_iff_not] at h1
    simp only
    rw [if_neg h1]
theorem slackL_succ (p : List Opn) (k : Nat) (hk : k < p.length) : I64 ((slackL p).take (k + 1)) = I64 ((slackL p).take k) ++ [.int .i64 (slackI (timeOf p) (opn p k))] := by
  rw [List.take_succ_eq_append_getElem (by simpa [slackL] using hk), opn_eq hk]
  simp [I64, slackL]

set_option maxRecDepth 100000 in
set_option maxHeartbeats 1000000 in
theorem refSlack_ok (p : List Opn) (v : Value) (w : World) (hl : IsProg w v p) (hok : okProg p = true) (hw : waitL p = []) : Calls Try.prog 26 #[v] w (ListPost (slackL p) 0 w) := by
  obtain ⟨bs, cq, hval⟩ := hl.1.shape
  subst hval
  have hlp := okProg_len hok
  have HV := Lib.hid (refValid_any p _ w hl (okProg_narrow hok))
  rw [hok] at HV
  have HW := Lib.hid (fun w1 (hb : Below w.heap.size w w1) => refwaits_any p _ w1 (hl.keeps (Keeps.of_below hb)) hok)
  have HC := Lib.hid (fun w1 (hb : Below w.heap.size w w1) i hi => refSlack_any p _ w1 (hl.keeps (Keeps.of_below hb)) hok i hi)
  have hwl : (ints (waitL p)).length = 0 := by rw [hw]; rfl
  have HI := Lib.hid (fun k hk => @slackI_ready p hw k hk)
  have HBD := Lib.hid (fun k hk => slackI_bd hok k hk)
  clear hl hok hw
  go_enter Try.func26, Try.ntmps26
  go_wp2_with (first
    | (go_at_call 17; refine HV.out.mono ?_; rintro e w1 ⟨rfl, h1⟩)
    | (go_at_call 43; refine (HW.out _ h1).mono ?_; rintro e w3 ⟨v', rfl, hv, h3⟩; obtain ⟨bv, cv, rfl⟩ := hv.shape; have h3' := h1.trans (h3.mono h1.size); rw [hwl]))
  have hs3 := h3'.size
  clear hwl hv h1 h3
  go_loopw [4, 5] (fun vo i wr => ∃ k : Nat, k ≤ p.length ∧ i = .int .i64 k ∧ Below w.heap.size w wr ∧ wr.ownsRow w.heap.size 3 1 vo k (I64 ((slackL p).take k))) (fun _ i _ => p.length - (intOf i).toNat)
  case atStart => exact ⟨0, by omega, rfl, h3', World.ownsRow_nil _ _ _ _⟩
  case round =>
    obtain ⟨k, hk, rfl, hbel, hown⟩ := hrel
    by_cases hlt : k < p.length
    · have hC := Lib.hid (HC.out wr hbel k hlt)
      unfold SlackPost at hC
      have hI := HI.out k hlt
      have HN := Lib.hid (slackL_succ p k hlt)
      have hbd := HBD.out k hlt
      rw [← opn_eq hlt] at hbd
      have hown1 := Lib.hid hown
      clear hown
      generalize arr (timeOf p) (opn p k).src = ar at *
      generalize (opn p k).time = t at *
      cases ar with
      | none =>
        simp only at hI
        rw [hI] at HN
        simp only [slkV_none, Option.isSome_none] at hC
        clear hI hbd
        go_wp2_with (first
          | (go_at_call 50; refine hC.out.mono ?_; rintro e w4 ⟨rfl, h4⟩)
          | (at_builtin; go_must (refine wpList_push rfl _ _ _ rfl slT25 _ rfl (own_below hown1.out h4) rfl rfl rfl (by omega) (by omega) (hbel.trans (h4.mono hbel.size)) (Nat.le_refl _) (by have := h4.size; have := hbel.size; omega) _ HN.out.symm ?_); intro v' w5 hown2 hb3))
        go_roundw
        case rel => exact ⟨k + 1, by omega, by go_num, hb3, hown2⟩
        case measure => simp [intOf]; omega
      | some u =>
        simp only at hI
        rw [hI] at HN hbd
        simp only [slkV_some, Option.isSome_some] at hC
        clear hI
        generalize t - u = d at *
        go_wp2_with (first
          | (go_at_call 50; refine hC.out.mono ?_; rintro e w4 ⟨rfl, h4⟩)
          | (at_builtin; go_must (refine wpList_push rfl _ _ _ rfl slT25 _ rfl (own_below hown1.out h4) rfl rfl rfl (by omega) (by omega) (hbel.trans (h4.mono hbel.size)) (Nat.le_refl _) (by have := h4.size; have := hbel.size; omega) _ HN.out.symm ?_); intro v' w5 hown2 hb3))
        go_roundw
        case rel => exact ⟨k + 1, by omega, by go_num, hb3, hown2⟩
        case measure => simp [intOf]; omega
    · obtain rfl : k = p.length := by omega
      go_wp2
      go_ret2
      have hl : (slackL p).length = p.length := by simp [slackL]
      rw [List.take_of_length_le (by omega)] at hown
      refine ⟨_, rfl, ?_, hbel⟩
      unfold IsInts
      rw [hl]
      exact Sl.of_own hown
end Go.Proofs.Ytmjdmpapickgkaa

namespace Go.Proofs.Ytmjdmpapickgkaa
open Go.RowKit Go.Kk

/-! Traffic -/
def hopsOf (l : List Src) (j : Nat) : Int := ((l.take j).map Src.hops).sum
def hopsTo (p : List Opn) (k : Nat) : Int := ((p.take k).map fun o => hopsOf o.src o.src.length).sum
theorem hopsOf_succ (l : List Src) (j : Nat) (hj : j < l.length) : hopsOf l (j + 1) = hopsOf l j + l[j].hops := by
  unfold hopsOf
  rw [List.take_succ_eq_append_getElem hj, List.map_append, List.sum_append]; simp
theorem hopsTo_succ (p : List Opn) (k : Nat) (hk : k < p.length) : hopsTo p (k + 1) = hopsTo p k + hopsOf (opn p k).src (opn p k).src.length := by
  unfold hopsTo
  rw [List.take_succ_eq_append_getElem hk, List.map_append, List.sum_append, opn_eq hk]; simp
theorem hopsOf_bd {n : Nat} {l : List Src} (hl : ∀ s ∈ l, (s.op = -1 ∧ 0 ≤ s.val ∧ s.val ≤ 10006 ∧ s.hops = 0) ∨ (0 ≤ s.op ∧ s.op < n ∧ s.val = 0 ∧ 0 ≤ s.hops ∧ s.hops ≤ 12)) (j : Nat) (hj : j ≤ l.length) : 0 ≤ hopsOf l j ∧ hopsOf l j ≤ 12 * j := by
  induction j with
  | zero => simp [hopsOf]
  | succ j ih =>
    have := ih (by omega)
    rw [hopsOf_succ l j (by omega)]
    rcases hl l[j] (List.getElem_mem _) with h | h <;> omega
theorem hopsTo_bd {p : List Opn} (hok : okProg p = true) (k : Nat) (hk : k ≤ p.length) : 0 ≤ hopsTo p k ∧ hopsTo p k ≤ 36 * k := by
  induction k with
  | zero => simp [hopsTo]
  | succ k ih =>
    have h0 := ih (by omega)
    have ho := okProg_op hok k (by omega)
    rw [← opn_eq (by omega)] at ho
    have h1 := hopsOf_bd ho.src (opn p k).src.length (Nat.le_refl _)
    have h2 := ho.len3
    rw [hopsTo_succ p k (by omega)]
    omega

def NumPost (n er : Int) (w : World) (e : Ending) (w' : World) : Prop := e = .returned (.tuple #[.int .i64 n, .int .i64 er]) ∧ Below w.heap.size w w'

set_option maxHeartbeats 400000 in
theorem Traffic_bad (p : List Opn) (v : Value) (w : World) (hl : IsProg w v p) (hlen : Narrow p) (hok : okProg p = false) : Calls Try.prog 33 #[v] w (NumPost 0 80 w) := by
  have HV := Lib.hid (valid_any p v w hl hlen)
  rw [hok] at HV
  clear hl hok
  go_enter Try.func33, Try.ntmps33
  go_wp2_with (first | (go_at_call 22; refine HV.out.mono ?_; rintro e w1 ⟨rfl, h1⟩))
  go_ret2
  exact ⟨rfl, h1⟩
set_option maxHeartbeats 400000 in
theorem refTraffic_bad (p : List Opn) (v : Value) (w : World) (hl : IsProg w v p) (hlen : Narrow p) (hok : okProg p = false) : Calls Try.prog 34 #[v] w (NumPost 0 80 w) := by
  have HV := Lib.hid (refValid_any p v w hl hlen)
  rw [hok] at HV
  clear hl hok
  go_enter Try.func34, Try.ntmps34
  go_wp2_with (first | (go_at_call 17; refine HV.out.mono ?_; rintro e w1 ⟨rfl, h1⟩))
  go_ret2
  exact ⟨rfl, h1⟩

set_option maxRecDepth 100000 in
set_option maxHeartbeats 1000000 in
theorem Traffic_ok (p : List Opn) (v : Value) (w : World) (hl : IsProg w v p) (hok : okProg p = true) : Calls Try.prog 33 #[v] w (NumPost (hopsTo p p.length) 0 w) := by
  obtain ⟨bs, cq, hval⟩ := hl.1.shape
  subst hval
  have hlp := okProg_len hok
  have HV := Lib.hid (valid_any p _ w hl (okProg_narrow hok))
  rw [hok] at HV
  have HL := Lib.hid hl
  have HO := Lib.hid hok
  clear hl hok
  go_enter Try.func33, Try.ntmps33
  go_wp2_with (first | (go_at_call 22; refine HV.out.mono ?_; rintro e w1 ⟨rfl, h1⟩))
  go_loopw [4, 14] (fun vn i wr => ∃ k : Nat, k ≤ p.length ∧ i = .int .i64 k ∧ vn = .int .i64 (hopsTo p k) ∧ Below w.heap.size w wr) (fun _ i _ => p.length - (intOf i).toNat)
  case atStart => exact ⟨0, by omega, rfl, rfl, h1⟩
  case round =>
    clear h1
    obtain ⟨k, hk, rfl, rfl, hbel⟩ := hrel
    have hbd := hopsTo_bd HO.out k hk
    by_cases hlt : k < p.length
    · obtain ⟨b1, off, cp1, hv, hc, hcl⟩ := Sl.at HL.out.1 (by omega)
      injection hv with hv1 _ hv3
      subst hv1 hv3
      obtain ⟨c0, c1, c2, c3, c4, c5⟩ := op_cells (hcl.keeps (Keeps.of_below hbel)) k hlt
      have ho := opn_eq hlt
      have hs := HL.out.2 p[k] (List.getElem_mem _)
      have hoo := okProg_op HO.out k hlt
      rw [← ho] at c0 c1 c2 c3 c4 c5 hs hoo
      have HN := Lib.hid (hopsTo_succ p k hlt)
      have hsrc := hoo.src
      have hlen := hoo.len3
      clear hcl ho hoo
      generalize opn p k = o at *
      obtain ⟨t, a0, a1, u, kd, oh, src⟩ := o
      simp only at *
      obtain ⟨bh, ch, hoh⟩ := hs.shape
      subst hoh
      have HS := Lib.hid (And.intro hs hsrc)
      clear hs hsrc
      generalize hopsTo p k = n0 at *
      go_wp2
      obtain ⟨w0, hw0⟩ : ∃ x, x = wr := ⟨wr, rfl⟩
      subst hw0
      go_loopw [4, 21] (fun vn i wr => ∃ j : Nat, j ≤ src.length ∧ i = .int .i64 j ∧ vn = .int .i64 (n0 + hopsOf src j) ∧ Below w.heap.size w wr) (fun _ i _ => src.length - (intOf i).toNat)
      case atStart => exact ⟨0, by omega, rfl, by simp [hopsOf], hbel.alloc hbel.size _⟩
      case round =>
        clear hbel
        obtain ⟨j, hj, rfl, rfl, hbel⟩ := hrel
        have hbj := hopsOf_bd HS.out.2 j hj
        by_cases hjl : j < src.length
        · obtain ⟨b2, of2, cp2, hv, hc2, hcl2⟩ := Sl.at HS.out.1 (by omega)
          injection hv with hv1 _ hv3
          subst hv1 hv3
          obtain ⟨d0, d1, d2⟩ := src_cells (hcl2.keeps (Keeps.of_below hbel)) j hjl
          have hsk := HS.out.2 src[j] (List.getElem_mem _)
          have HNj := Lib.hid (hopsOf_succ src j hjl)
          clear hcl2
          generalize src[j] = s at *
          obtain ⟨so, sv, sh⟩ := s
          simp only at *
          have hh : 0 ≤ sh ∧ sh ≤ 12 := by rcases hsk with h | h <;> omega
          clear hsk
          generalize hopsOf src j = m0 at *
          go_wp2
          go_roundw
          case rel => exact ⟨j + 1, by omega, by go_num, by rw [HNj.out]; go_num, hbel.alloc hbel.size _⟩
          case measure => simp [intOf]; omega
        · obtain rfl : j = src.length := by omega
          generalize hopsOf src src.length = m0 at *
          go_wp2
          go_roundw
          case rel => exact ⟨k + 1, by omega, by go_num, by rw [HN.out], hbel⟩
          case measure => simp [intOf]; omega
    · obtain rfl : k = p.length := by omega
      generalize hopsTo p p.length = n0 at *
      go_wp2
      go_ret2
      exact ⟨rfl, hbel⟩

set_option maxRecDepth 100000 in
set_option maxHeartbeats 1000000 in
theorem refTraffic_ok (p : List Opn) (v : Value) (w : World) (hl : IsProg w v p) (hok : okProg p = true) : Calls Try.prog 34 #[v] w (NumPost (hopsTo p p.length) 0 w) := by
  obtain ⟨bs, cq, hval⟩ := hl.1.shape
  subst hval
  have hlp := okProg_len hok
  have HV := Lib.hid (refValid_any p _ w hl (okProg_narrow hok))
  rw [hok] at HV
  have HL := Lib.hid hl
  have HO := Lib.hid hok
  clear hl hok
  go_enter Try.func34, Try.ntmps34
  go_wp2_with (first | (go_at_call 17; refine HV.out.mono ?_; rintro e w1 ⟨rfl, h1⟩))
  go_loop [4, 5] (fun vn i => ∃ k : Nat, k ≤ p.length ∧ i = .int .i64 k ∧ vn = .int .i64 (hopsTo p k)) (fun _ i => p.length - (intOf i).toNat)
  case atStart => exact ⟨0, by omega, rfl, rfl⟩
  case round =>
    obtain ⟨k, hk, rfl, rfl⟩ := hrel
    have hbd := hopsTo_bd HO.out k hk
    by_cases hlt : k < p.length
    · obtain ⟨b1, off, cp1, hv, hc, hcl⟩ := Sl.at HL.out.1 (by omega)
      injection hv with hv1 _ hv3
      subst hv1 hv3
      obtain ⟨c0, c1, c2, c3, c4, c5⟩ := op_cells (hcl.keeps (Keeps.of_below h1)) k hlt
      have ho := opn_eq hlt
      have hs := HL.out.2 p[k] (List.getElem_mem _)
      have hoo := okProg_op HO.out k hlt
      rw [← ho] at c5 hs hoo
      have HN := Lib.hid (hopsTo_succ p k hlt)
      have hsrc := hoo.src
      have hlen := hoo.len3
      clear hcl ho hoo c0 c1 c2 c3 c4
      generalize opn p k = o at *
      obtain ⟨t, a0, a1, u, kd, oh, src⟩ := o
      simp only at *
      obtain ⟨bh, ch, hoh⟩ := hs.shape
      subst hoh
      have HS := Lib.hid (And.intro (hs.keeps (Keeps.of_below h1)) hsrc)
      clear hs hsrc
      generalize hopsTo p k = n0 at *
      go_wp2
      go_loop [4, 6] (fun vn i => ∃ j : Nat, j ≤ src.length ∧ i = .int .i64 j ∧ vn = .int .i64 (n0 + hopsOf src j)) (fun _ i => src.length - (intOf i).toNat)
      case atStart => exact ⟨0, by omega, rfl, by simp [hopsOf]⟩
      case round =>
        obtain ⟨j, hj, rfl, rfl⟩ := hrel
        have hbj := hopsOf_bd HS.out.2 j hj
        by_cases hjl : j < src.length
        · obtain ⟨b2, of2, cp2, hv, hc2, hcl2⟩ := Sl.at HS.out.1 (by omega)
          injection hv with hv1 _ hv3
          subst hv1 hv3
          obtain ⟨d0, d1, d2⟩ := src_cells hcl2 j hjl
          have hsk := HS.out.2 src[j] (List.getElem_mem _)
          have HNj := Lib.hid (hopsOf_succ src j hjl)
          clear hcl2
          generalize src[j] = s at *
          obtain ⟨so, sv, sh⟩ := s
          simp only at *
          have hh : 0 ≤ sh ∧ sh ≤ 12 := by rcases hsk with h | h <;> omega
          clear hsk
          generalize hopsOf src j = m0 at *
          go_wp2
          go_round
          case rel => exact ⟨j + 1, by omega, by go_num, by rw [HNj.out]; go_num⟩
          case measure => simp [intOf]; omega
        · obtain rfl : j = src.length := by omega
          generalize hopsOf src src.length = m0 at *
          go_wp2
          go_round
          case rel => exact ⟨k + 1, by omega, by go_num, by rw [HN.out]⟩
          case measure => simp [intOf]; omega
    · obtain rfl : k = p.length := by omega
      generalize hopsTo p p.length = n0 at *
      go_wp2
      go_ret2
      exact ⟨rfl, h1⟩
end Go.Proofs.Ytmjdmpapickgkaa

namespace Go.Proofs.Ytmjdmpapickgkaa
open Go.RowKit Go.Kk

/-! Span -/
def mnT (p : List Opn) : Nat → Int
  | 0 => timeOf p 0
  | k + 1 => min (mnT p k) (timeOf p k)
def mxT (p : List Opn) : Nat → Int
  | 0 => timeOf p 0
  | k + 1 => max (mxT p k) (timeOf p k)
theorem mnT_le (p : List Opn) (k : Nat) : ∀ i, i < k → mnT p k ≤ timeOf p i := by
  induction k with
  | zero => intro i h; omega
  | succ k ih =>
    intro i hi
    unfold mnT
    by_cases e : i = k
    · subst e; omega
    · have := ih i (by omega); omega
theorem mxT_ge (p : List Opn) (k : Nat) : ∀ i, i < k → timeOf p i ≤ mxT p k := by
  induction k with
  | zero => intro i h; omega
  | succ k ih =>
    intro i hi
    unfold mxT
    by_cases e : i = k
    · subst e; omega
    · have := ih i (by omega); omega
theorem mnT_at (p : List Opn) (k n : Nat) (hk : k ≤ n) (hn : 0 < n) : ∃ i, i < n ∧ timeOf p i = mnT p k := by
  induction k with
  | zero => exact ⟨0, hn, rfl⟩
  | succ k ih =>
    obtain ⟨i, h1, h2⟩ := ih (by omega)
    unfold mnT
    by_cases h : mnT p k ≤ timeOf p k
    · exact ⟨i, h1, by omega⟩
    · exact ⟨k, by omega, by omega⟩
theorem mxT_at (p : List Opn) (k n : Nat) (hk : k ≤ n) (hn : 0 < n) : ∃ i, i < n ∧ timeOf p i = mxT p k := by
  induction k with
  | zero => exact ⟨0, hn, rfl⟩
  | succ k ih =>
    obtain ⟨i, h1, h2⟩ := ih (by omega)
    unfold mxT
    by_cases h : timeOf p k ≤ mxT p k
    · exact ⟨i, h1, by omega⟩
    · exact ⟨k, by omega, by omega⟩
theorem order_first {p : List Opn} {d : Array Nat} (h : Order p d) (hn : 0 < p.length) : timeOf p d[0]! = mnT p p.length := by
  have h1 := mnT_le p p.length d[0]! (h.lt 0 hn)
  obtain ⟨i, hi, e⟩ := mnT_at p p.length p.length (Nat.le_refl _) hn
  obtain ⟨j, hj, e2⟩ := h.surj hi
  have := h.srt 0 j (Nat.le_refl _) (Nat.zero_le _) hj
  rw [e2, e] at this
  omega
theorem order_last {p : List Opn} {d : Array Nat} (h : Order p d) (hn : 0 < p.length) : timeOf p d[p.length - 1]! = mxT p p.length := by
  have h1 := mxT_ge p p.length d[p.length - 1]! (h.lt _ (by omega))
  obtain ⟨i, hi, e⟩ := mxT_at p p.length p.length (Nat.le_refl _) hn
  obtain ⟨j, hj, e2⟩ := h.surj hi
  have := h.srt j (p.length - 1) (Nat.zero_le _) (by omega) (by omega)
  rw [e2, e] at this
  omega

def SpanPost (a b er : Int) (w : World) (e : Ending) (w' : World) : Prop := e = .returned (.tuple #[.int .i64 a, .int .i64 b, .int .i64 er]) ∧ Below w.heap.size w w'
def spanE (p : List Opn) : Int := if okProg p = true then (if p.length = 0 then 5 else 0) else 80
def spanA (p : List Opn) : Int := if spanE p = 0 then mnT p p.length else 0
def spanB (p : List Opn) : Int := if spanE p = 0 then mxT p p.length else 0

theorem spanE_zero {p : List Opn} (h : spanE p = 0) : okProg p = true ∧ 0 < p.length := by
  unfold spanE at h
  split at h
  · split at h
    · omega
    · exact ⟨‹_›, by omega⟩
  · omega

set_option maxHeartbeats 400000 in
theorem Span_err (p : List Opn) (v : Value) (w : World) (hl : IsProg w v p) (hlen : Narrow p) (h : spanE p ≠ 0) : Calls Try.prog 27 #[v] w (SpanPost 0 0 (spanE p) w) := by
  have HV := Lib.hid (valid_any p v w hl hlen)
  obtain ⟨bs, cq, hval⟩ := hl.1.shape
  subst hval
  have hn := hlen.1
  by_cases hok : okProg p = true
  · have h0 : p.length = 0 := by
      unfold spanE at h
      rw [if_pos hok] at h
      by_cases e : p.length = 0
      · exact e
      · rw [if_neg e] at h
        exact absurd rfl h
    have he : spanE p = 5 := by unfold spanE; rw [if_pos hok, if_pos h0]
    rw [he]
    rw [hok] at HV
    rw [h0] at HV ⊢
    clear hl hlen h hok h0 he hn
    go_enter Try.func27, Try.ntmps27
    go_wp2_with (first | (go_at_call 22; refine HV.out.mono ?_; rintro e w1 ⟨rfl, h1⟩))
    go_ret3
    exact ⟨rfl, h1⟩
  · have he : spanE p = 80 := by unfold spanE; rw [if_neg hok]
    rw [show okProg p = false by simpa using hok] at HV
    rw [he]
    clear hl hlen h hok he hn
    go_enter Try.func27, Try.ntmps27
    go_wp2_with (first | (go_at_call 22; refine HV.out.mono ?_; rintro e w1 ⟨rfl, h1⟩))
    go_ret3
    exact ⟨rfl, h1⟩
set_option maxHeartbeats 400000 in
theorem refSpan_err (p : List Opn) (v : Value) (w : World) (hl : IsProg w v p) (hlen : Narrow p) (h : spanE p ≠ 0) : Calls Try.prog 28 #[v] w (SpanPost 0 0 (spanE p) w) := by
  have HV := Lib.hid (refValid_any p v w hl hlen)
  obtain ⟨bs, cq, hval⟩ := hl.1.shape
  subst hval
  have hn := hlen.1
  by_cases hok : okProg p = true
  · have h0 : p.length = 0 := by
      unfold spanE at h
      rw [if_pos hok] at h
      by_cases e : p.length = 0
      · exact e
      · rw [if_neg e] at h
        exact absurd rfl h
    have he : spanE p = 5 := by unfold spanE; rw [if_pos hok, if_pos h0]
    rw [he]
    rw [hok] at HV
    rw [h0] at HV ⊢
    clear hl hlen h hok h0 he hn
    go_enter Try.func28, Try.ntmps28
    go_wp2_with (first | (go_at_call 17; refine HV.out.mono ?_; rintro e w1 ⟨rfl, h1⟩))
    go_ret3
    exact ⟨rfl, h1⟩
  · have he : spanE p = 80 := by unfold spanE; rw [if_neg hok]
    rw [show okProg p = false by simpa using hok] at HV
    rw [he]
    clear hl hlen h hok he hn
    go_enter Try.func28, Try.ntmps28
    go_wp2_with (first | (go_at_call 17; refine HV.out.mono ?_; rintro e w1 ⟨rfl, h1⟩))
    go_ret3
    exact ⟨rfl, h1⟩

set_option maxHeartbeats 1000000 in
theorem Span_ok (p : List Opn) (v : Value) (w : World) (hl : IsProg w v p) (hok : okProg p = true) (hn : 0 < p.length) (h60 : p.length ≤ 60) : Calls Try.prog 27 #[v] w (SpanPost (mnT p p.length) (mxT p p.length) 0 w) := by
  have HV := Lib.hid (valid_any p v w hl (okProg_narrow hok))
  rw [hok] at HV
  have HO := Lib.hid (fun w1 (hb : Below w.heap.size w w1) => ordered_any p v w1 (hl.keeps (Keeps.of_below hb)) (okProg_narrow hok) h60)
  obtain ⟨b, off, cq, hval, hcq, hcl⟩ := Sl.at hl.1 hn
  subst hval
  have HC := Lib.hid hcl
  clear hl hok hcl
  have hb0 : (((p.length : Nat) : Int) == 0) = false := beq_eq_false_iff_ne.2 (by omega)
  go_enter Try.func27, Try.ntmps27
  go_wp2_with (first
    | (go_at_call 22; refine HV.out.mono ?_; rintro e w1 ⟨rfl, h1⟩)
    | (go_at_call 51; refine (HO.out _ h1).mono ?_; rintro e w2 ⟨G, d, rfl, hG, hA, hOr, h2⟩))
  have h2' := h1.trans (h2.mono h1.size)
  have e1 : w2.cell? ⟨G, 0, none⟩ = some (.int .i64 (d[0]! : Nat)) := cell_of_heap hA (by simp [show 0 < d.size by rw [hOr.size]; exact hn])
  have e2 : w2.cell? ⟨G, p.length - 1, none⟩ = some (.int .i64 (d[p.length - 1]! : Nat)) := cell_of_heap hA (by simp [show p.length - 1 < d.size by rw [hOr.size]; omega])
  have l1 := hOr.lt 0 hn
  have l2 := hOr.lt (p.length - 1) (by omega)
  have hcl2 := HC.out.keeps (Keeps.of_below h2')
  obtain ⟨f1, _⟩ := op_cells hcl2 d[0]! l1
  obtain ⟨f2, _⟩ := op_cells hcl2 d[p.length - 1]! l2
  have t1 : p[d[0]!].time = mnT p p.length := by rw [← order_first hOr hn]; unfold timeOf; rw [dif_pos l1]
  have t2 : p[d[p.length - 1]!].time = mxT p p.length := by rw [← order_last hOr hn]; unfold timeOf; rw [dif_pos l2]
  rw [t1] at f1
  rw [t2] at f2
  clear t1 t2 hOr hA hcl2
  generalize d[0]! = x at *
  generalize d[p.length - 1]! = y at *
  generalize mnT p p.length = ma at *
  generalize mxT p p.length = mb at *
  have y1 : IntKind.i64.wrap (((p.length : Nat) : Int) - 1) = ((p.length : Nat) : Int) - 1 := IntWalk.i64_in _ (by omega)
  have y2 : 0 ≤ ((p.length : Nat) : Int) - 1 := by omega
  have y3 : (((p.length : Nat) : Int) - 1).toNat = p.length - 1 := by omega
  have z1 : (x : Int) < (p.length : Int) := by omega
  have z2 : (y : Int) < (p.length : Int) := by omega
  go_quiet (fail)
  clear y1 y2 y3
  go_wp2
  go_ret3
  exact ⟨rfl, below_drewN' h2' _⟩

set_option maxHeartbeats 1000000 in
theorem refSpan_ok (p : List Opn) (v : Value) (w : World) (hl : IsProg w v p) (hok : okProg p = true) (hn : 0 < p.length) : Calls Try.prog 28 #[v] w (SpanPost (mnT p p.length) (mxT p p.length) 0 w) := by
  have HV := Lib.hid (refValid_any p v w hl (okProg_narrow hok))
  rw [hok] at HV
  have hlp := okProg_len hok
  obtain ⟨b, off, cq, hval, hcq, hcl⟩ := Sl.at hl.1 hn
  subst hval
  have HC : Hid (∀ w1, Below w.heap.size w w1 → ∀ k, k < p.length → w1.cell? ⟨b, off + k * 6, none⟩ = some (.int .i64 (timeOf p k))) := Lib.hid fun w1 hb k hk => by
    obtain ⟨f1, _⟩ := op_cells (hcl.keeps (Keeps.of_below hb)) k hk
    rw [f1]; unfold timeOf; rw [dif_pos hk]
  clear hl hok hcl
  have hb0 : (((p.length : Nat) : Int) == 0) = false := beq_eq_false_iff_ne.2 (by omega)
  go_enter Try.func28, Try.ntmps28
  go_wp2_with (first | (go_at_call 17; refine HV.out.mono ?_; rintro e w1 ⟨rfl, h1⟩))
  have c0 := HC.out w1 h1 0 hn
  simp only [Nat.zero_mul, Nat.add_zero] at c0
  have hm0 : timeOf p 0 = mnT p 0 := rfl
  have hx0 : mnT p 0 = mxT p 0 := rfl
  rw [hm0] at c0
  go_quiet (fail)
  go_wp2
  clear c0 hm0
  go_loopw [2, 3, 5] (fun va vb vi wr => ∃ k : Nat, k ≤ p.length ∧ vi = .int .i64 k ∧ va = .int .i64 (mnT p k) ∧ vb = .int .i64 (mxT p k) ∧ Below w.heap.size w wr) (fun _ _ vi _ => p.length - (intOf vi).toNat)
  case atStart => exact ⟨0, by omega, rfl, by rw [hx0], rfl, below_drewN' h1 _⟩
  case round =>
    clear hx0
    obtain ⟨k, hk, rfl, rfl, rfl, hbel⟩ := hrel
    by_cases hlt : k < p.length
    · have ck := HC.out wr hbel k hlt
      have e1 := Lib.hid (show mnT p (k + 1) = min (mnT p k) (timeOf p k) from rfl)
      have e2 := Lib.hid (show mxT p (k + 1) = max (mxT p k) (timeOf p k) from rfl)
      generalize timeOf p k = t at *
      generalize mnT p k = ma at *
      generalize mxT p k = mb at *
      go_wp2
      go_quiet (fail)
      go_wp2
      go_roundw
      case rel => exact ⟨k + 1, by omega, by go_num, by rw [e1.out], by rw [e2.out], below_drewN' hbel _⟩
      case measure => simp [intOf]; omega
    · obtain rfl : k = p.length := by omega
      generalize mnT p p.length = ma at *
      generalize mxT p p.length = mb at *
      go_wp2
      go_ret3
      exact ⟨rfl, hbel⟩
end Go.Proofs.Ytmjdmpapickgkaa
