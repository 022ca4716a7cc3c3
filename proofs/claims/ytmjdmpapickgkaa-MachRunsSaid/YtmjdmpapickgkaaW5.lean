import Derived.Test.YtmjdmpapickgkaaW4
namespace Go.Proofs.Ytmjdmpapickgkaa
open Go.RowKit Go.Kk

def slkV (t : Int) (acc : Option Int) : Int := match acc with | none => 0 | some u => t - u
theorem slkV_none (t : Int) : slkV t none = 0 := rfl
theorem slkV_some (t u : Int) : slkV t (some u) = t - u := rfl
/-- ref's slack: the least, and whether there is one -/
def SlackPost (T : Nat → Int) (o : Opn) (w : World) (e : Ending) (w' : World) : Prop := e = .returned (.tuple #[.int .i64 (slkV o.time (arr T o.src)), .bool (arr T o.src).isSome]) ∧ Below w.heap.size w w'

set_option maxRecDepth 100000 in
set_option maxHeartbeats 2000000 in
theorem refSlack_any (p : List Opn) (v : Value) (w : World) (hl : IsProg w v p) (hok : okProg p = true) (i : Nat) (hi : i < p.length) :
    Calls Try.prog 50 #[v, .int .i64 i] w (SlackPost (timeOf p) (opn p i) w) := by
  obtain ⟨bs, cq, hval⟩ := hl.1.shape
  subst hval
  have hlp := okProg_len hok
  have hoo := okProg_op hok i hi
  have ho := opn_eq hi
  have hs := hl.2 p[i] (List.getElem_mem _)
  obtain ⟨b1, off, cp1, hv, hc, hcl⟩ := Sl.at hl.1 (by omega)
  injection hv with hv1 _ hv3
  subst hv1 hv3
  obtain ⟨c0, c1, c2, c3, c4, c5⟩ := op_cells hcl i hi
  have HP : Hid (∀ j, j < p.length → w.cell? ⟨b1, off + j * 6, none⟩ = some (.int .i64 (timeOf p j)) ∧ -100000 ≤ timeOf p j ∧ timeOf p j ≤ 100000) := Lib.hid fun j hj => ⟨by
    obtain ⟨d0, _⟩ := op_cells hcl j hj
    rw [d0]; unfold timeOf; rw [dif_pos hj], timeOf_bd hok j hj⟩
  have hb := arr_bd (B := 100000) (timeOf_bd hok)
  rw [← ho] at c0 c5 hoo hs
  have hsrc := hoo.src
  have hlen := hoo.len3
  have hto := hoo.t
  clear hl hcl hok ho c1 c2 c3 c4 hoo
  generalize opn p i = o at *
  obtain ⟨t, a0, a1, u, kd, oh, src⟩ := o
  simp only at *
  obtain ⟨bh, ch, hoh⟩ := hs.shape
  subst hoh
  have HS := Lib.hid hs
  have HB := Lib.hid (And.intro hsrc hb)
  clear hs hsrc hb
  go_enter Try.func50, Try.ntmps50
  go_wp2
  go_loopw [6, 7, 8] (fun vl va vi wr => ∃ (k : Nat) (acc : Option Int), k ≤ src.length ∧ vi = .int .i64 k ∧ vl = .int .i64 (slkV t acc) ∧ va = .bool acc.isSome ∧ Hid (acc = arr (timeOf p) (src.take k)) ∧ Below w.heap.size w wr) (fun _ _ i _ => src.length - (intOf i).toNat)
  case atStart => exact ⟨0, none, by omega, rfl, rfl, rfl, Lib.hid rfl, Below.refl _ _⟩
  case round =>
    obtain ⟨k, acc, hk, rfl, rfl, rfl, HA, hbel⟩ := hrel
    have c0' := Keeps.of_below hbel _ _ c0
    have c5' := Keeps.of_below hbel _ _ c5
    by_cases hlt : k < src.length
    · obtain ⟨b2, of2, cp2, hv, hc2, hcl⟩ := Sl.at HS.out (by omega)
      injection hv with hv1 _ hv3
      subst hv1 hv3
      obtain ⟨d0, d1, d2⟩ := src_cells (hcl.keeps (Keeps.of_below hbel)) k hlt
      have hsk := HB.out.1 src[k] (List.getElem_mem _)
      have hbk : ∀ u, acc = some u → -100000 ≤ u ∧ u ≤ 100012 := fun u hu => HB.out.2 (src.take k) (fun s hs => HB.out.1 s (List.mem_of_mem_take hs)) u (HA.out ▸ hu)
      have hak := arr_take (timeOf p) src k hlt
      rw [← HA.out] at hak
      clear hcl
      generalize src[k] = s at *
      obtain ⟨so, sv, sh⟩ := s
      simp only at *
      by_cases hneg : so < 0
      · rw [arrStep_neg hneg] at hak
        have HK := Lib.hid hak
        clear hak hbk hsk HA
        have hneg' : decide (so < 0) = true := by simpa using hneg
        go_wp2
        go_roundw
        case rel => exact ⟨k + 1, acc, by omega, by go_num, rfl, rfl, Lib.hid HK.out.symm, hbel.alloc hbel.size _⟩
        case measure => simp [intOf]; omega
      · have h3 : 0 ≤ so ∧ so < p.length ∧ sv = 0 ∧ 0 ≤ sh ∧ sh ≤ 12 := by
          rcases hsk with ⟨h, _⟩ | h
          · omega
          · exact h
        obtain ⟨h31, h32, h33, h34, h35⟩ := h3
        obtain ⟨j, rfl⟩ := Int.eq_ofNat_of_zero_le h31
        obtain ⟨e0, hTk⟩ := HP.out j (by omega)
        have e0' := Keeps.of_below hbel _ _ e0
        have hjn : (j : Int).toNat = j := by omega
        have HCD : Hid (comes (timeOf p) ⟨(j : Int), sv, sh⟩ = timeOf p j + max 1 sh) := Lib.hid (by unfold comes; simp only; rw [hjn])
        have HK := Lib.hid (And.intro hak HCD.out)
        clear hak hsk h33 hjn HCD HA e0
        generalize timeOf p j = tk at *
        have y0 : IntKind.i64.wrap (t - tk) = t - tk := IntWalk.i64_in _ (by omega)
        have y1 : IntKind.i64.wrap (t - tk - max 1 sh) = t - tk - max 1 sh := IntWalk.i64_in _ (by omega)
        go_wp2
        have c0x := fun o => Keeps.of_below (below_alloc wr o) _ _ c0'
        have e0x := fun o => Keeps.of_below (below_alloc wr o) _ _ e0'
        go_quiet (fail)
        clear c0x e0x y0 y1
        have hbA := hbel.alloc hbel.size (.cells #[.int .i64 (j : Int), .int .i64 sv, .int .i64 sh] 52)
        have hcd : t - tk - max 1 sh = t - (tk + max 1 sh) := by omega
        rw [hcd]
        clear hcd
        cases acc with
        | none =>
          rw [slkV_none]
          go_wp2
          go_roundw
          case rel => exact ⟨k + 1, some (tk + max 1 sh), by omega, by go_num, rfl, rfl, Lib.hid (by rw [HK.out.1, arrStep_none (show ¬ (j : Int) < 0 by omega), HK.out.2]), below_drewN' hbA _⟩
          case measure => simp [intOf]; omega
        | some v =>
          have hbv := hbk v rfl
          rw [slkV_some]
          by_cases hmore : v < tk + max 1 sh
          · go_wp2
            go_roundw
            case rel => exact ⟨k + 1, some (tk + max 1 sh), by omega, by go_num, rfl, rfl, Lib.hid (by rw [HK.out.1, arrStep_more (show ¬ (j : Int) < 0 by omega) (by rw [HK.out.2]; omega), HK.out.2]), below_drewN' hbA _⟩
            case measure => simp [intOf]; omega
          · go_wp2
            go_roundw
            case rel => exact ⟨k + 1, some v, by omega, by go_num, rfl, rfl, Lib.hid (by rw [HK.out.1, arrStep_less (show ¬ (j : Int) < 0 by omega) (by rw [HK.out.2]; omega)]), below_drewN' hbA _⟩
            case measure => simp [intOf]; omega
    · obtain rfl : k = src.length := by omega
      have HA2 : Hid (acc = arr (timeOf p) src) := Lib.hid (by rw [HA.out, List.take_length])
      clear HA
      go_wp2
      go_ret2
      unfold SlackPost
      rw [← HA2.out]
      exact ⟨rfl, hbel⟩
end Go.Proofs.Ytmjdmpapickgkaa
