import Derived.Test.YtmjdmpapickgkaaZ7
namespace Go.Proofs.Ytmjdmpapickgkaa
open Go.RowKit Go.Kk

/-- a list of ints and an error -/
def ListPost (l : List Int) (er : Int) (w : World) (e : Ending) (w' : World) : Prop := ∃ v', e = .returned (.tuple #[v', .int .i64 er]) ∧ IsInts w' v' l ∧ Below w.heap.size w w'

theorem isInts_nil (w : World) : IsInts w (.slice none 0 0) [] := Sl.nil w 1

set_option maxHeartbeats 1000000 in
theorem Waits_bad (p : List Opn) (v : Value) (w : World) (hl : IsProg w v p) (hlen : Narrow p) (hok : okProg p = false) : Calls Try.prog 20 #[v] w (ListPost [] 80 w) := by
  have HV := Lib.hid (valid_any p v w hl hlen)
  rw [hok] at HV
  clear hl hok
  go_enter Try.func20, Try.ntmps20
  go_wp2_with (first | (go_at_call 22; refine HV.out.mono ?_; rintro e w1 ⟨rfl, h1⟩))
  go_ret2
  exact ⟨_, rfl, isInts_nil _, h1⟩

theorem ints_filter_succ (f : Nat → Bool) (k : Nat) : I64 (ints ((List.range (k + 1)).filter f)) = I64 (ints ((List.range k).filter f)) ++ (if f k then [.int .i64 k] else []) := by
  rw [filter_range_succ]
  by_cases h : f k = true <;> simp [I64, ints, h]
theorem ints_filter_yes {f : Nat → Bool} {k : Nat} (h : f k = true) : I64 (ints ((List.range (k + 1)).filter f)) = I64 (ints ((List.range k).filter f)) ++ [.int .i64 k] ∧ ((List.range (k + 1)).filter f).length = ((List.range k).filter f).length + 1 := by
  rw [filter_range_succ, h]; simp [I64, ints]
theorem ints_filter_no {f : Nat → Bool} {k : Nat} (h : f k = false) : (List.range (k + 1)).filter f = (List.range k).filter f := by
  rw [filter_range_succ, h]; simp
theorem filter_len (f : Nat → Bool) (k : Nat) : ((List.range k).filter f).length ≤ k := Nat.le_trans (List.length_filter_le _ _) (by simp)

set_option maxHeartbeats 1000000 in
theorem Waits_ok (p : List Opn) (v : Value) (w : World) (hl : IsProg w v p) (hok : okProg p = true) : Calls Try.prog 20 #[v] w (ListPost (ints (waitL p)) 0 w) := by
  have hlp := okProg_len hok
  have HV := Lib.hid (valid_any p v w hl (okProg_narrow hok))
  rw [hok] at HV
  have HS := Lib.hid (fun w1 hl => slacks_any p v w1 hl hok)
  have HL := Lib.hid hl
  have HO := Lib.hid hok
  clear hl hok
  go_enter Try.func20, Try.ntmps20
  go_wp2_with (first
    | (go_at_call 22; refine HV.out.mono ?_; rintro e w1 ⟨rfl, h1⟩)
    | (go_at_call 42; refine (HS.out _ (HL.out.keeps (Keeps.of_below h1))).mono ?_; rintro e w2 ⟨vs, rfl, hsl, h2⟩; obtain ⟨bv, cv, rfl⟩ := hsl.shape; have hll : (slackL p).length = p.length := by simp [slackL]))
  have hb2 : Below w.heap.size w w2 := h1.trans (h2.mono h1.size)
  have HSL := Lib.hid hsl
  have HLL := Lib.hid hll
  clear h1 h2 hsl hll
  go_loopw [4, 13] (fun vo i wr => ∃ k : Nat, k ≤ p.length ∧ i = .int .i64 k ∧ Below w2.heap.size w2 wr ∧ wr.ownsRow w2.heap.size 3 1 vo ((List.range k).filter (fun i => decide (slackI (timeOf p) (opn p i) < -1))).length (I64 (ints ((List.range k).filter (fun i => decide (slackI (timeOf p) (opn p i) < -1)))))) (fun _ i _ => p.length - (intOf i).toNat)
  case atStart => exact ⟨0, by omega, rfl, Below.refl _ _, World.ownsRow_nil _ _ _ _⟩
  case round =>
    obtain ⟨k, hk, rfl, hbel, hown⟩ := hrel
    have hb0 : Below w.heap.size w wr := hb2.trans (hbel.mono hb2.size)
    by_cases hlt : k < p.length
    · obtain ⟨b1, off, cp1, hv, hc, hcl⟩ := Sl.at HSL.out (by have := HLL.out; omega)
      have e1 := HLL.out
      injection hv with hv1 hv2 hv3
      subst hv1 hv3
      have c0 := (hcl.keeps (Keeps.of_below hbel)) k (.int .i64 (slackI (timeOf p) (opn p k))) (by have := slackL_get p k hlt; simp [I64, this])
      have hfl := filter_len (fun i => decide (slackI (timeOf p) (opn p i) < -1)) k
      clear hcl e1 hv2
      by_cases hw : slackI (timeOf p) (opn p k) < -1
      · have HN := Lib.hid (ints_filter_yes (f := fun i => decide (slackI (timeOf p) (opn p i) < -1)) (k := k) (by simpa using hw))
        generalize slackI (timeOf p) (opn p k) = x at *
        have hown1 := Lib.hid hown
        clear hown
        go_wp2_with (first
          | (at_builtin; go_must (refine wpList_push rfl _ _ _ rfl slT25 _ rfl hown1.out rfl rfl rfl (by omega) (by omega) hbel (Nat.le_refl _) hbel.size _ HN.out.1.symm ?_); intro v' w3 hown2 hb3))
        go_roundw
        case rel => exact ⟨k + 1, by omega, by go_num, hb3, by rw [HN.out.2]; exact hown2⟩
        case measure => simp [intOf]; omega
      · have HN := Lib.hid (ints_filter_no (f := fun i => decide (slackI (timeOf p) (opn p i) < -1)) (k := k) (by simpa using hw))
        generalize slackI (timeOf p) (opn p k) = x at *
        have hown1 := Lib.hid hown
        clear hown
        go_wp2
        go_roundw
        case rel => exact ⟨k + 1, by omega, by go_num, hbel, by rw [HN.out]; exact hown1.out⟩
        case measure => simp [intOf]; omega
    · obtain rfl : k = p.length := by omega
      go_wp2
      go_ret2
      rw [← waitL_eq] at hown
      refine ⟨_, rfl, ?_, hb0⟩
      unfold IsInts
      rw [show (ints (waitL p)).length = (waitL p).length by simp [ints]]
      exact Sl.of_own hown
end Go.Proofs.Ytmjdmpapickgkaa

namespace Go.Proofs.Ytmjdmpapickgkaa
open Go.RowKit Go.Kk

def readyE (p : List Opn) : Int := if okProg p = true then (if (waitL p).length = 0 then 0 else 82) else 80

set_option maxHeartbeats 1000000 in
theorem ready_any (p : List Opn) (v : Value) (w : World) (hl : IsProg w v p) (hlen : Narrow p) : Calls Try.prog 37 #[v] w fun e w' => e = .returned (.int .i64 (readyE p)) ∧ Below w.heap.size w w' := by
  by_cases hok : okProg p = true
  · have HW := Lib.hid (Waits_ok p v w hl hok)
    have hll : (ints (waitL p)).length = (waitL p).length := by simp [ints]
    by_cases h0 : (waitL p).length = 0
    · have hr : readyE p = 0 := by unfold readyE; rw [if_pos hok, if_pos h0]
      rw [hr]
      have HH := Lib.hid (hll.trans h0)
      clear hl hok hll h0 hr
      go_enter Try.func37, Try.ntmps37
      go_wp2_with (go_at_call 20; refine HW.out.mono ?_; rintro e w1 ⟨v', rfl, hv, h1⟩; obtain ⟨bv, cv, rfl⟩ := hv.shape; rw [HH.out])
      go_ret
      exact ⟨rfl, h1⟩
    · have hr : readyE p = 82 := by unfold readyE; rw [if_pos hok, if_neg h0]
      rw [hr]
      have hpos : 0 < (ints (waitL p)).length := by omega
      have hle : (ints (waitL p)).length ≤ 4000 := by have h1 : (waitL p).length ≤ p.length := filter_len (fun i => waitsB (timeOf p) (opn p i)) p.length; have := okProg_len hok; omega
      have HH := Lib.hid h0
      clear hl hok hll h0 hr
      go_enter Try.func37, Try.ntmps37
      go_wp2_with (go_at_call 20; refine HW.out.mono ?_; rintro e w1 ⟨v', rfl, hv, h1⟩; obtain ⟨bv, cv, rfl⟩ := hv.shape)
      go_ret
      exact ⟨rfl, h1⟩
  · have HW := Lib.hid (Waits_bad p v w hl hlen (by simpa using hok))
    have hr : readyE p = 80 := by unfold readyE; rw [if_neg hok]
    rw [hr]
    clear hl hok hr
    go_enter Try.func37, Try.ntmps37
    go_wp2_with (go_at_call 20; refine HW.out.mono ?_; rintro e w1 ⟨v', rfl, hv, h1⟩; obtain ⟨bv, cv, rfl⟩ := hv.shape; rw [show ([] : List Int).length = 0 from rfl])
    go_ret
    exact ⟨rfl, h1⟩
end Go.Proofs.Ytmjdmpapickgkaa

namespace Go.Proofs.Ytmjdmpapickgkaa
open Go.RowKit Go.Kk

def slkV (t : Int) (acc : Option Int) : Int := match acc with | none => 0 | some u => t - u
theorem slkV_none (t : Int) : slkV t none = 0 := rfl
theorem slkV_some (t u : Int) : slkV t (some u) = t - u := rfl
/-- ref's slack: the least, and whether there is one -/
def SlackPost (T : Nat → Int) (o : Opn) (w : World) (e : Ending) (w' : World) : Prop := e = .returned (.tuple #[.int .i64 (slkV o.time (arr T o.src)), .bool (arr T o.src).isSome]) ∧ Below w.heap.size w w'

set_option maxRecDepth 100000 in
set_option maxHeartbeats 2000000 in
theorem refSlack_any (p : List Opn) (v : Value) (w : World) (hl : IsProg w v p) (hok : okProg p = true) (i : Nat) (hi : i < p.length) :
    Calls Try.prog 50 #[v, .int .i64 i] w (SlackPost (timeOf p) (opn p i) w) := by
  obtain ⟨bs, cq, hval⟩ := hl.1.shape
  subst hval
  have hlp := okProg_len hok
  have hoo := okProg_op hok i hi
  have ho := opn_eq hi
  have hs := hl.2 p[i] (List.getElem_mem _)
  obtain ⟨b1, off, cp1, hv, hc, hcl⟩ := Sl.at hl.1 (by omega)
  injection hv with hv1 _ hv3
  subst hv1 hv3
  obtain ⟨c0, c1, c2, c3, c4, c5⟩ := op_cells hcl i hi
  have HP : Hid (∀ j, j < p.length → w.cell? ⟨b1, off + j * 6, none⟩ = some (.int .i64 (timeOf p j)) ∧ -100000 ≤ timeOf p j ∧ timeOf p j ≤ 100000) := Lib.hid fun j hj => ⟨by
    obtain ⟨d0, _⟩ := op_cells hcl j hj
    rw [d0]; unfold timeOf; rw [dif_pos hj], timeOf_bd hok j hj⟩
  have hb := arr_bd (B := 100000) (timeOf_bd hok)
  rw [← ho] at c0 c5 hoo hs
  have hsrc := hoo.src
  have hlen := hoo.len3
  have hto := hoo.t
  clear hl hcl hok ho c1 c2 c3 c4 hoo
  generalize opn p i = o at *
  obtain ⟨t, a0, a1, u, kd, oh, src⟩ := o
  simp only at *
  obtain ⟨bh, ch, hoh⟩ := hs.shape
  subst hoh
  have HS := Lib.hid hs
  have HB := Lib.hid (And.intro hsrc hb)
  clear hs hsrc hb
  go_enter Try.func50, Try.ntmps50
  go_wp2
  go_loopw [6, 7, 8] (fun vl va vi wr => ∃ (k : Nat) (acc : Option Int), k ≤ src.length ∧ vi = .int .i64 k ∧ vl = .int .i64 (slkV t acc) ∧ va = .bool acc.isSome ∧ Hid (acc = arr (timeOf p) (src.take k)) ∧ Below w.heap.size w wr) (fun _ _ i _ => src.length - (intOf i).toNat)
  case atStart => exact ⟨0, none, by omega, rfl, rfl, rfl, Lib.hid rfl, Below.refl _ _⟩
  case round =>
    obtain ⟨k, acc, hk, rfl, rfl, rfl, HA, hbel⟩ := hrel
    have c0' := Keeps.of_below hbel _ _ c0
    have c5' := Keeps.of_below hbel _ _ c5
    by_cases hlt : k < src.length
    · obtain ⟨b2, of2, cp2, hv, hc2, hcl⟩ := Sl.at HS.out (by omega)
      injection hv with hv1 _ hv3
      subst hv1 hv3
      obtain ⟨d0, d1, d2⟩ := src_cells (hcl.keeps (Keeps.of_below hbel)) k hlt
      have hsk := HB.out.1 src[k] (List.getElem_mem _)
      have hbk : ∀ u, acc = some u → -100000 ≤ u ∧ u ≤ 100012 := fun u hu => HB.out.2 (src.take k) (fun s hs => HB.out.1 s (List.mem_of_mem_take hs)) u (HA.out ▸ hu)
      have hak := arr_take (timeOf p) src k hlt
      rw [← HA.out] at hak
      clear hcl
      generalize src[k] = s at *
      obtain ⟨so, sv, sh⟩ := s
      simp only at *
      by_cases hneg : so < 0
      · rw [arrStep_neg hneg] at hak
        have HK := Lib.hid hak
        clear hak hbk hsk HA
        have hneg' : decide (so < 0) = true := by simpa using hneg
        go_wp2
        go_roundw
        case rel => exact ⟨k + 1, acc, by omega, by go_num, rfl, rfl, Lib.hid HK.out.symm, hbel.alloc hbel.size _⟩
        case measure => simp [intOf]; omega
      · have h3 : 0 ≤ so ∧ so < p.length ∧ sv = 0 ∧ 0 ≤ sh ∧ sh ≤ 12 := by
          rcases hsk with ⟨h, _⟩ | h
          · omega
          · exact h
        obtain ⟨h31, h32, h33, h34, h35⟩ := h3
        obtain ⟨j, rfl⟩ := Int.eq_ofNat_of_zero_le h31
        obtain ⟨e0, hTk⟩ := HP.out j (by omega)
        have e0' := Keeps.of_below hbel _ _ e0
        have hjn : (j : Int).toNat = j := by omega
        have HCD : Hid (comes (timeOf p) ⟨(j : Int), sv, sh⟩ = timeOf p j + max 1 sh) := Lib.hid (by unfold comes; simp only; rw [hjn])
        have HK := Lib.hid (And.intro hak HCD.out)
        clear hak hsk h33 hjn HCD HA e0
        generalize timeOf p j = tk at *
        have y0 : IntKind.i64.wrap (t - tk) = t - tk := IntWalk.i64_in _ (by omega)
        have y1 : IntKind.i64.wrap (t - tk - max 1 sh) = t - tk - max 1 sh := IntWalk.i64_in _ (by omega)
        go_wp2
        have c0x := fun o => Keeps.of_below (below_alloc wr o) _ _ c0'
        have e0x := fun o => Keeps.of_below (below_alloc wr o) _ _ e0'
        go_quiet (fail)
        clear c0x e0x y0 y1
        have hbA := hbel.alloc hbel.size (.cells #[.int .i64 (j : Int), .int .i64 sv, .int .i64 sh] 52)
        have hcd : t - tk - max 1 sh = t - (tk + max 1 sh) := by omega
        rw [hcd]
        clear hcd
        cases acc with
        | none =>
          rw [slkV_none]
          go_wp2
          go_roundw
          case rel => exact ⟨k + 1, some (tk + max 1 sh), by omega, by go_num, rfl, rfl, Lib.hid (by rw [HK.out.1, arrStep_none (show ¬ (j : Int) < 0 by omega), HK.out.2]), below_drewN' hbA _⟩
          case measure => simp [intOf]; omega
        | some v =>
          have hbv := hbk v rfl
          rw [slkV_some]
          by_cases hmore : v < tk + max 1 sh
          · go_wp2
            go_roundw
            case rel => exact ⟨k + 1, some (tk + max 1 sh), by omega, by go_num, rfl, rfl, Lib.hid (by rw [HK.out.1, arrStep_more (show ¬ (j : Int) < 0 by omega) (by rw [HK.out.2]; omega), HK.out.2]), below_drewN' hbA _⟩
            case measure => simp [intOf]; omega
          · go_wp2
            go_roundw
            case rel => exact ⟨k + 1, some v, by omega, by go_num, rfl, rfl, Lib.hid (by rw [HK.out.1, arrStep_less (show ¬ (j : Int) < 0 by omega) (by rw [HK.out.2]; omega)]), below_drewN' hbA _⟩
            case measure => simp [intOf]; omega
    · obtain rfl : k = src.length := by omega
      have HA2 : Hid (acc = arr (timeOf p) src) := Lib.hid (by rw [HA.out, List.take_length])
      clear HA
      go_wp2
      go_ret2
      unfold SlackPost
      rw [← HA2.out]
      exact ⟨rfl, hbel⟩
end Go.Proofs.Ytmjdmpapickgkaa

namespace Go.Proofs.Ytmjdmpapickgkaa
open Go.RowKit Go.Kk

def wB (p : List Opn) (i : Nat) : Bool := waitsB (timeOf p) (opn p i)

set_option maxHeartbeats 1000000 in
theorem refwaits_any (p : List Opn) (v : Value) (w : World) (hl : IsProg w v p) (hok : okProg p = true) :
    Calls Try.prog 43 #[v] w fun e w' => ∃ v', e = .returned v' ∧ IsInts w' v' (ints (waitL p)) ∧ Below w.heap.size w w' := by
  obtain ⟨bs, cq, hval⟩ := hl.1.shape
  subst hval
  have hlp := okProg_len hok
  have HC := Lib.hid (fun w1 (hb : Below w.heap.size w w1) i hi => refSlack_any p _ w1 (hl.keeps (Keeps.of_below hb)) hok i hi)
  clear hl hok
  go_enter Try.func43, Try.ntmps43
  go_wp2
  go_loopw [3, 4] (fun vo i wr => ∃ k : Nat, k ≤ p.length ∧ i = .int .i64 k ∧ Below w.heap.size w wr ∧ wr.ownsRow w.heap.size 3 1 vo ((List.range k).filter (wB p)).length (I64 (ints ((List.range k).filter (wB p))))) (fun _ i _ => p.length - (intOf i).toNat)
  case atStart => exact ⟨0, by omega, rfl, Below.refl _ _, World.ownsRow_nil _ _ _ _⟩
  case round =>
    obtain ⟨k, hk, rfl, hbel, hown⟩ := hrel
    by_cases hlt : k < p.length
    · have hC := Lib.hid (HC.out wr hbel k hlt)
      have hfl := filter_len (wB p) k
      have hwb : wB p k = match arr (timeOf p) (opn p k).src with | none => false | some u => decide ((opn p k).time < u) := rfl
      have hy := @ints_filter_yes (wB p) k
      have hn := @ints_filter_no (wB p) k
      unfold SlackPost at hC
      have hown1 := Lib.hid hown
      clear hown
      generalize arr (timeOf p) (opn p k).src = ar at *
      generalize (opn p k).time = t at *
      cases ar with
      | none =>
        have HN := Lib.hid (hn hwb)
        clear hy hn hwb
        simp only [slkV_none, Option.isSome_none] at hC
        go_wp2_with (go_at_call 50; refine hC.out.mono ?_; rintro e w1 ⟨rfl, h1⟩)
        go_roundw
        case rel => exact ⟨k + 1, by omega, by go_num, hbel.trans (h1.mono hbel.size), by rw [HN.out]; exact own_below hown1.out h1⟩
        case measure => simp [intOf]; omega
      | some u =>
        simp only [slkV_some, Option.isSome_some] at hC
        by_cases htu : t < u
        · have HY := Lib.hid (hy (by rw [hwb]; simpa using htu))
          clear hy hn hwb
          have hd : decide (t - u < 0) = true := by simp; omega
          generalize t - u = d at *
          have hd2 : d < 0 := by simpa using hd
          go_wp2_with (first
            | (go_at_call 50; refine hC.out.mono ?_; rintro e w1 ⟨rfl, h1⟩)
            | (at_builtin; go_must (refine wpList_push rfl _ _ _ rfl slT25 _ rfl (own_below hown1.out h1) rfl rfl rfl (by omega) (by omega) (hbel.trans (h1.mono hbel.size)) (Nat.le_refl _) (by have := h1.size; have := hbel.size; omega) _ HY.out.1.symm ?_); intro v' w3 hown2 hb3))
          go_roundw
          case rel => exact ⟨k + 1, by omega, by go_num, hb3, by rw [HY.out.2]; exact hown2⟩
          case measure => simp [intOf]; omega
        · have HN := Lib.hid (hn (by rw [hwb]; simpa using htu))
          clear hy hn hwb
          have hd : decide (t - u < 0) = false := by simp; omega
          generalize t - u = d at *
          have hd2 : ¬ d < 0 := by simpa using hd
          go_wp2_with (go_at_call 50; refine hC.out.mono ?_; rintro e w1 ⟨rfl, h1⟩)
          go_roundw
          case rel => exact ⟨k + 1, by omega, by go_num, hbel.trans (h1.mono hbel.size), by rw [HN.out]; exact own_below hown1.out h1⟩
          case measure => simp [intOf]; omega
    · obtain rfl : k = p.length := by omega
      go_wp2
      go_ret
      refine ⟨_, rfl, ?_, hbel⟩
      unfold IsInts
      rw [show (ints (waitL p)).length = (waitL p).length by simp [ints]]
      exact Sl.of_own hown

set_option maxHeartbeats 400000 in
theorem refWaits_bad (p : List Opn) (v : Value) (w : World) (hl : IsProg w v p) (hlen : Narrow p) (hok : okProg p = false) : Calls Try.prog 21 #[v] w (ListPost [] 80 w) := by
  have HV := Lib.hid (refValid_any p v w hl hlen)
  rw [hok] at HV
  clear hl hok
  go_enter Try.func21, Try.ntmps21
  go_wp2_with (first | (go_at_call 17; refine HV.out.mono ?_; rintro e w1 ⟨rfl, h1⟩))
  go_ret2
  exact ⟨_, rfl, isInts_nil _, h1⟩
set_option maxHeartbeats 400000 in
theorem refWaits_ok (p : List Opn) (v : Value) (w : World) (hl : IsProg w v p) (hok : okProg p = true) : Calls Try.prog 21 #[v] w (ListPost (ints (waitL p)) 0 w) := by
  have HV := Lib.hid (refValid_any p v w hl (okProg_narrow hok))
  rw [hok] at HV
  have HW := Lib.hid (fun w1 (hb : Below w.heap.size w w1) => refwaits_any p v w1 (hl.keeps (Keeps.of_below hb)) hok)
  clear hl hok
  go_enter Try.func21, Try.ntmps21
  go_wp2_with (first
    | (go_at_call 17; refine HV.out.mono ?_; rintro e w1 ⟨rfl, h1⟩)
    | (go_at_call 43; refine (HW.out _ h1).mono ?_; rintro e w2 ⟨v', rfl, hv, h2⟩))
  go_ret2
  exact ⟨_, rfl, hv, h1.trans (h2.mono h1.size)⟩
end Go.Proofs.Ytmjdmpapickgkaa
