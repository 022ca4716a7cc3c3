import Derived.Test.YtmjdmpapickgkaaW1
import Derived.Test.YtmjdmpapickgkaaM2
namespace Go.Proofs.Ytmjdmpapickgkaa
open Go.RowKit Go.Kk

theorem okProg_narrow {p : List Opn} (h : okProg p = true) : Narrow p :=
  ⟨by have := okProg_len h; omega, fun o ho => by obtain ⟨i, hi, rfl⟩ := List.getElem_of_mem ho; have := (okProg_op h i hi).len3; omega⟩

set_option maxHeartbeats 1000000 in
theorem closure57 (p : List Opn) (base : Option Addr) (cp C : Nat) (w : World) (hl : IsProg w (.slice base p.length cp) p) (hC : w.cell? ⟨C, 0, none⟩ = some (.slice base p.length cp)) (hlen : p.length ≤ 1000000) : Tells57 w C p.length (timeOf p) := by
  intro w1 k hb h0 hk
  obtain ⟨j, rfl⟩ := Int.eq_ofNat_of_zero_le h0
  have hj : j < p.length := by omega
  obtain ⟨b1, off, cp1, hv, hc, hcl⟩ := Sl.at hl.1 (by omega)
  injection hv with hv1 _ hv3
  subst hv1 hv3
  obtain ⟨c0, _⟩ := op_cells (hcl.keeps (Keeps.of_below hb)) j hj
  have hC' := Keeps.of_below hb _ _ hC
  have hti : timeOf p j = p[j].time := by unfold timeOf; rw [dif_pos hj]
  have hx : (j : Int).toNat = j := by omega
  rw [hx, hti]
  clear hl hcl hti hx
  generalize p[j].time = x at *
  go_enter Try.func57, Try.ntmps57
  go_wp2
  go_ret
  exact ⟨rfl, rfl⟩

set_option maxHeartbeats 2000000 in
set_option maxRecDepth 100000 in
theorem slacks_any (p : List Opn) (v : Value) (w : World) (hl : IsProg w v p) (hok : okProg p = true) :
    Calls Try.prog 42 #[v] w fun e w' => ∃ v', e = .returned v' ∧ IsInts w' v' (slackL p) ∧ Below w.heap.size w w' := by
  obtain ⟨bs, cq, hval⟩ := hl.1.shape
  subst hval
  have hlp := okProg_len hok
  have HL := Lib.hid hl
  have HO := Lib.hid hok
  clear hl hok
  go_enter Try.func42, Try.ntmps42
  go_wp2
  have HCL : Hid (Tells57 (w.alloc (.cells #[.slice bs p.length cq] 22)) w.heap.size p.length (timeOf p)) := Lib.hid (closure57 p bs cq _ _ (HL.out.keeps (Keeps.of_below (below_alloc w _))) (newA w _ _ _ 0 _ rfl rfl) (by omega))
  go_loopw [3, 10] (fun vo i wr => ∃ k : Nat, k ≤ p.length ∧ i = .int .i64 k ∧ Below (w.heap.size + 1) (w.alloc (.cells #[.slice bs p.length cq] 22)) wr ∧ wr.ownsRow (w.heap.size + 1) 3 1 vo k (I64 ((slackL p).take k))) (fun _ i _ => p.length - (intOf i).toNat)
  case atStart => exact ⟨0, by omega, rfl, by simpa using Below.refl (w.alloc (.cells #[.slice bs p.length cq] 22)).heap.size _, World.ownsRow_nil _ _ _ _⟩
  case round =>
    obtain ⟨k, hk, rfl, hbel, hown⟩ := hrel
    have hb0 : Below w.heap.size w wr := (below_alloc w _).trans (hbel.mono (by omega))
    have hsz : w.heap.size + 1 ≤ wr.heap.size := by have := hbel.size; simpa using this
    have hCc : wr.cell? ⟨w.heap.size, 0, none⟩ = some (.slice bs p.length cq) := (hbel.cell (p := ⟨w.heap.size, 0, none⟩) (by simp)).trans (newA w _ _ _ 0 _ rfl rfl)
    by_cases hlt : k < p.length
    · obtain ⟨b1, off, cp1, hv, hc, hcl⟩ := Sl.at HL.out.1 (by omega)
      injection hv with hv1 _ hv3
      subst hv1 hv3
      obtain ⟨c0, c1, c2, c3, c4, c5⟩ := op_cells (hcl.keeps (Keeps.of_below hb0)) k hlt
      have hs := (HL.out.2 p[k] (List.getElem_mem _)).keeps (Keeps.of_below (hb0.alloc hb0.size (.cells #[.int .i64 p[k].time, .int .i64 p[k].c0, .int .i64 p[k].c1, .int .i64 p[k].unit, .int .i64 p[k].kind, p[k].h] 37)))
      have hoo := okProg_op HO.out k hlt
      have HT57 : Hid (Tells57 (wr.alloc (.cells #[.int .i64 p[k].time, .int .i64 p[k].c0, .int .i64 p[k].c1, .int .i64 p[k].unit, .int .i64 p[k].kind, p[k].h] 37)) w.heap.size p.length (timeOf p)) := Lib.hid (fun w1 j hb => HCL.out w1 j (by
        have := (hbel.alloc hsz (.cells #[.int .i64 p[k].time, .int .i64 p[k].c0, .int .i64 p[k].c1, .int .i64 p[k].unit, .int .i64 p[k].kind, p[k].h] 37)).trans (hb.mono (by simp; omega))
        simpa using this))
      have harr := arrival57 p[k] (timeOf p) p.length w.heap.size _ hs hoo (fun j hj => by have := timeOf_bd HO.out j hj; omega) HT57.out
      have hsn : I64 ((slackL p).take (k + 1)) = I64 ((slackL p).take k) ++ [.int .i64 (slackI (timeOf p) p[k])] := by
        rw [List.take_succ_eq_append_getElem (by simpa [slackL] using hlt)]
        simp [I64, slackL]
      have hbd := slackI_bd HO.out k hlt
      have hab := arr_bd (B := 100000) (timeOf_bd HO.out) p[k].src hoo.src
      have HSN := Lib.hid hsn
      have hto := hoo.t
      obtain ⟨bh, ch, hoh⟩ := hs.shape
      have harr := Lib.hid harr
      clear hcl hs hoo hsn HT57 HCL
      unfold Opn.v slackI ArrPost at *
      generalize p[k] = o at *
      obtain ⟨t, a0, a1, u, kd, oh, src⟩ := o
      simp only at *
      subst hoh
      generalize arr (timeOf p) src = ar at *
      have hown1 := Lib.hid (hown.alloc (.cells #[.int .i64 t, .int .i64 a0, .int .i64 a1, .int .i64 u, .int .i64 kd, .slice bh src.length ch] 37))
      have hb1 := hb0.alloc hb0.size (.cells #[.int .i64 t, .int .i64 a0, .int .i64 a1, .int .i64 u, .int .i64 kd, .slice bh src.length ch] 37)
      have hb2 := hbel.alloc hsz (.cells #[.int .i64 t, .int .i64 a0, .int .i64 a1, .int .i64 u, .int .i64 kd, .slice bh src.length ch] 37)
      clear hown
      cases ar with
      | none =>
        simp only [Option.getD_none, Option.isSome_none] at harr HSN
        clear hab hbd
        go_wp2_with (first
          | (go_at_call 52; refine harr.out.mono ?_; rintro e w1 ⟨rfl, h1⟩; have cT : w1.cell? ⟨wr.heap.size, 0, none⟩ = some (.int .i64 t) := Keeps.of_below h1 _ _ (newA wr _ _ _ 0 _ rfl rfl))
          | (at_builtin; go_must (refine wpList_push rfl _ _ _ rfl slT25 _ rfl (own_below hown1.out h1) rfl rfl rfl (by omega) (by omega) (hb2.trans (h1.mono (by simp; omega))) (Nat.le_refl _) (by have := h1.size; simp at this; omega) _ HSN.out.symm ?_); intro v' w2 hown2 hb3))
        go_roundw
        case rel => exact ⟨k + 1, by omega, by go_num, hb3, hown2⟩
        case measure => simp [intOf]; omega
      | some x =>
        simp only [Option.getD_some, Option.isSome_some] at harr HSN
        have hx := hab x rfl
        clear hab hbd
        by_cases htx : t < x
        · replace HSN := Lib.hid (by have := HSN.out; rw [if_pos htx] at this; exact this)
          go_wp2_with (first
            | (go_at_call 52; refine harr.out.mono ?_; rintro e w1 ⟨rfl, h1⟩; have cT : w1.cell? ⟨wr.heap.size, 0, none⟩ = some (.int .i64 t) := Keeps.of_below h1 _ _ (newA wr _ _ _ 0 _ rfl rfl))
            | (at_builtin; go_must (refine wpList_push rfl _ _ _ rfl slT25 _ rfl (own_below hown1.out h1) rfl rfl rfl (by omega) (by omega) (hb2.trans (h1.mono (by simp; omega))) (Nat.le_refl _) (by have := h1.size; simp at this; omega) _ HSN.out.symm ?_); intro v' w2 hown2 hb3))
          go_roundw
          case rel => exact ⟨k + 1, by omega, by go_num, hb3, hown2⟩
          case measure => simp [intOf]; omega
        · replace HSN := Lib.hid (by have := HSN.out; rw [if_neg htx] at this; exact this)
          go_wp2_with (first
            | (go_at_call 52; refine harr.out.mono ?_; rintro e w1 ⟨rfl, h1⟩; have cT : w1.cell? ⟨wr.heap.size, 0, none⟩ = some (.int .i64 t) := Keeps.of_below h1 _ _ (newA wr _ _ _ 0 _ rfl rfl))
            | (at_builtin; go_must (refine wpList_push rfl _ _ _ rfl slT25 _ rfl (own_below hown1.out h1) rfl rfl rfl (by omega) (by omega) (hb2.trans (h1.mono (by simp; omega))) (Nat.le_refl _) (by have := h1.size; simp at this; omega) _ HSN.out.symm ?_); intro v' w2 hown2 hb3))
          go_roundw
          case rel => exact ⟨k + 1, by omega, by go_num, hb3, hown2⟩
          case measure => simp [intOf]; omega
    · obtain rfl : k = p.length := by omega
      go_wp2
      go_ret
      have hl : (slackL p).length = p.length := by simp [slackL]
      rw [List.take_of_length_le (by omega)] at hown
      refine ⟨_, rfl, ?_, hb0⟩
      unfold IsInts
      rw [hl]
      exact Sl.of_own hown
end Go.Proofs.Ytmjdmpapickgkaa
