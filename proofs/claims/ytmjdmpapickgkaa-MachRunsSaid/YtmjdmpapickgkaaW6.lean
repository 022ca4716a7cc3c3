import Derived.Test.YtmjdmpapickgkaaW5
namespace Go.Proofs.Ytmjdmpapickgkaa
open Go.RowKit Go.Kk

def wB (p : List Opn) (i : Nat) : Bool := waitsB (timeOf p) (opn p i)

set_option maxHeartbeats 1000000 in
theorem refwaits_any (p : List Opn) (v : Value) (w : World) (hl : IsProg w v p) (hok : okProg p = true) :
    Calls Try.prog 43 #[v] w fun e w' => ∃ v', e = .returned v' ∧ IsInts w' v' (ints (waitL p)) ∧ Below w.heap.size w w' := by
  obtain ⟨bs, cq, hval⟩ := hl.1.shape
  subst hval
  have hlp := okProg_len hok
  have HC := Lib.hid (fun w1 (hb : Below w.heap.size w w1) i hi => refSlack_any p _ w1 (hl.keeps (Keeps.of_below hb)) hok i hi)
  clear hl hok
  go_enter Try.func43, Try.ntmps43
  go_wp2
  go_loopw [3, 4] (fun vo i wr => ∃ k : Nat, k ≤ p.length ∧ i = .int .i64 k ∧ Below w.heap.size w wr ∧ wr.ownsRow w.heap.size 3 1 vo ((List.range k).filter (wB p)).length (I64 (ints ((List.range k).filter (wB p))))) (fun _ i _ => p.length - (intOf i).toNat)
  case atStart => exact ⟨0, by omega, rfl, Below.refl _ _, World.ownsRow_nil _ _ _ _⟩
  case round =>
    obtain ⟨k, hk, rfl, hbel, hown⟩ := hrel
    by_cases hlt : k < p.length
    · have hC := Lib.hid (HC.out wr hbel k hlt)
      have hfl := filter_len (wB p) k
      have hwb : wB p k = match arr (timeOf p) (opn p k).src with | none => false | some u => decide ((opn p k).time < u) := rfl
      have hy := @ints_filter_yes (wB p) k
      have hn := @ints_filter_no (wB p) k
      unfold SlackPost at hC
      have hown1 := Lib.hid hown
      clear hown
      generalize arr (timeOf p) (opn p k).src = ar at *
      generalize (opn p k).time = t at *
      cases ar with
      | none =>
        have HN := Lib.hid (hn hwb)
        clear hy hn hwb
        simp only [slkV_none, Option.isSome_none] at hC
        go_wp2_with (go_at_call 50; refine hC.out.mono ?_; rintro e w1 ⟨rfl, h1⟩)
        go_roundw
        case rel => exact ⟨k + 1, by omega, by go_num, hbel.trans (h1.mono hbel.size), by rw [HN.out]; exact own_below hown1.out h1⟩
        case measure => simp [intOf]; omega
      | some u =>
        simp only [slkV_some, Option.isSome_some] at hC
        by_cases htu : t < u
        · have HY := Lib.hid (hy (by rw [hwb]; simpa using htu))
          clear hy hn hwb
          have hd : decide (t - u < 0) = true := by simp; omega
          generalize t - u = d at *
          have hd2 : d < 0 := by simpa using hd
          go_wp2_with (first
            | (go_at_call 50; refine hC.out.mono ?_; rintro e w1 ⟨rfl, h1⟩)
            | (at_builtin; go_must (refine wpList_push rfl _ _ _ rfl slT25 _ rfl (own_below hown1.out h1) rfl rfl rfl (by omega) (by omega) (hbel.trans (h1.mono hbel.size)) (Nat.le_refl _) (by have := h1.size; have := hbel.size; omega) _ HY.out.1.symm ?_); intro v' w3 hown2 hb3))
          go_roundw
          case rel => exact ⟨k + 1, by omega, by go_num, hb3, by rw [HY.out.2]; exact hown2⟩
          case measure => simp [intOf]; omega
        · have HN := Lib.hid (hn (by rw [hwb]; simpa using htu))
          clear hy hn hwb
          have hd : decide (t - u < 0) = false := by simp; omega
          generalize t - u = d at *
          have hd2 : ¬ d < 0 := by simpa using hd
          go_wp2_with (go_at_call 50; refine hC.out.mono ?_; rintro e w1 ⟨rfl, h1⟩)
          go_roundw
          case rel => exact ⟨k + 1, by omega, by go_num, hbel.trans (h1.mono hbel.size), by rw [HN.out]; exact own_below hown1.out h1⟩
          case measure => simp [intOf]; omega
    · obtain rfl : k = p.length := by omega
      go_wp2
      go_ret
      refine ⟨_, rfl, ?_, hbel⟩
      unfold IsInts
      rw [show (ints (waitL p)).length = (waitL p).length by simp [ints]]
      exact Sl.of_own hown

set_option maxHeartbeats 400000 in
theorem refWaits_bad (p : List Opn) (v : Value) (w : World) (hl : IsProg w v p) (hlen : Narrow p) (hok : okProg p = false) : Calls Try.prog 21 #[v] w (ListPost [] 80 w) := by
  have HV := Lib.hid (refValid_any p v w hl hlen)
  rw [hok] at HV
  clear hl hok
  go_enter Try.func21, Try.ntmps21
  go_wp2_with (first | (go_at_call 17; refine HV.out.mono ?_; rintro e w1 ⟨rfl, h1⟩))
  go_ret2
  exact ⟨_, rfl, isInts_nil _, h1⟩
set_option maxHeartbeats 400000 in
theorem refWaits_ok (p : List Opn) (v : Value) (w : World) (hl : IsProg w v p) (hok : okProg p = true) : Calls Try.prog 21 #[v] w (ListPost (ints (waitL p)) 0 w) := by
  have HV := Lib.hid (refValid_any p v w hl (okProg_narrow hok))
  rw [hok] at HV
  have HW := Lib.hid (fun w1 (hb : Below w.heap.size w w1) => refwaits_any p v w1 (hl.keeps (Keeps.of_below hb)) hok)
  clear hl hok
  go_enter Try.func21, Try.ntmps21
  go_wp2_with (first
    | (go_at_call 17; refine HV.out.mono ?_; rintro e w1 ⟨rfl, h1⟩)
    | (go_at_call 43; refine (HW.out _ h1).mono ?_; rintro e w2 ⟨v', rfl, hv, h2⟩))
  go_ret2
  exact ⟨_, rfl, hv, h1.trans (h2.mono h1.size)⟩
end Go.Proofs.Ytmjdmpapickgkaa
