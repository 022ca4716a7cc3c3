import Derived.Test.YtmjdmpapickgkaaN2
import Derived.Deep.QuietTactic
import Derived.BigQuiet
import Derived.Deep.DeepFit
namespace Go.Proofs.Ytmjdmpapickgkaa
open Go.RowKit Go.Kk

/-- the times that a closure tells -/
def Tells57 (w : World) (C n : Nat) (T : Nat → Int) : Prop := ∀ (w1 : World) (k : Int), Below w.heap.size w w1 → 0 ≤ k → k < n → Calls Try.prog 57 #[.int .i64 k, .pointer (some ⟨C, 0, none⟩)] w1 fun e w' => e = .returned (.int .i64 (T k.toNat)) ∧ w' = w1

def ArrPost (T : Nat → Int) (l : List Src) (w : World) (e : Ending) (w' : World) : Prop := e = .returned (.tuple #[.int .i64 ((arr T l).getD 0), .bool (arr T l).isSome]) ∧ Below w.heap.size w w'

set_option maxRecDepth 100000 in
set_option maxHeartbeats 2000000 in
theorem arrival57 (o : Opn) (T : Nat → Int) (n C : Nat) (w : World) (hs : IsSrcs w o.h o.src) (hok : OpOk n o) (hT : ∀ k, k < n → -1000000 ≤ T k ∧ T k ≤ 1000000) (HF : Tells57 w C n T) :
    Calls Try.prog 52 #[o.v, .func (.func 57) #[] #[.pointer (some ⟨C, 0, none⟩)]] w (ArrPost T o.src w) := by
  have hsrc := hok.src
  have hlen := hok.len3
  have hb := arr_bd (B := 1000000) hT
  clear hok
  obtain ⟨t, a0, a1, u, kd, oh, src⟩ := o
  unfold Opn.v
  simp only at *
  obtain ⟨bh, ch, hoh⟩ := hs.shape
  subst hoh
  have HS := Lib.hid hs
  have HS' := Lib.hid (And.intro hsrc (And.intro hb hT))
  have HF := Lib.hid HF
  clear hs hsrc hb hT
  go_enter Try.func52, Try.ntmps52
  go_wp2
  go_loopw [6, 7, 14] (fun vl va i wr => ∃ (k : Nat) (acc : Option Int), k ≤ src.length ∧ i = .int .i64 k ∧ vl = .int .i64 (acc.getD 0) ∧ va = .bool acc.isSome ∧ Hid (acc = arr T (src.take k)) ∧ Below w.heap.size w wr) (fun _ _ i _ => src.length - (intOf i).toNat)
  case atStart => exact ⟨0, none, by omega, rfl, rfl, rfl, Lib.hid rfl, below_alloc _ _⟩
  case round =>
    obtain ⟨k, acc, hk, rfl, rfl, rfl, HA, hbel⟩ := hrel
    by_cases hlt : k < src.length
    · obtain ⟨b1, off, cp1, hv, hc, hcl⟩ := Sl.at HS.out (by omega)
      injection hv with hv1 _ hv3
      subst hv1 hv3
      obtain ⟨c0, c1, c2⟩ := src_cells (hcl.keeps (Keeps.of_below hbel)) k hlt
      have hsk := HS'.out.1 src[k] (List.getElem_mem _)
      have hbk : ∀ u, acc = some u → -1000000 ≤ u ∧ u ≤ 1000012 := fun u hu => HS'.out.2.1 (src.take k) (fun s hs => HS'.out.1 s (List.mem_of_mem_take hs)) u (HA.out ▸ hu)
      have hak := arr_take T src k hlt
      rw [← HA.out] at hak
      have hcb := @comes_bd T src[k] n 1000000 HS'.out.2.2
      clear hcl
      generalize src[k] = s at *
      obtain ⟨so, sv, sh⟩ := s
      simp only at *
      by_cases hneg : so < 0
      · rw [arrStep_neg hneg] at hak
        have HK := Lib.hid hak
        clear hak hbk hcb hsk
        have hneg' : decide (so < 0) = true := by simpa using hneg
        go_wp2
        go_roundw
        case rel => exact ⟨k + 1, acc, by omega, by go_num, rfl, rfl, Lib.hid HK.out.symm, hbel.alloc hbel.size _⟩
        case measure => simp [intOf]; omega
      · have h3 : 0 ≤ so ∧ so < n ∧ sv = 0 ∧ 0 ≤ sh ∧ sh ≤ 12 := by rcases hsk with ⟨h, _⟩ | h; · omega
                                                                    · exact h
        obtain ⟨h31, h32, h33, h34, h35⟩ := h3
        have hcv := hcb h31 h32 ⟨h34, h35⟩
        have HK := Lib.hid hak
        clear hak hcb hsk h33
        have hcall := fun w1 hb => HF.out w1 so hb h31 h32
        have hcd : comes T ⟨so, sv, sh⟩ = T so.toNat + max 1 sh := rfl
        rw [hcd] at hcv
        have HCD := Lib.hid hcd
        clear hcd
        have hTk := HS'.out.2.2 so.toNat (by omega)
        generalize T so.toNat = tk at *
        have hbA := hbel.alloc hbel.size (.cells #[.int .i64 so, .int .i64 sv, .int .i64 sh] 52)
        have y1 : IntKind.i64.wrap (tk + sh) = tk + sh := IntWalk.i64_in _ (by omega)
        have y2 : IntKind.i64.wrap (tk + 1) = tk + 1 := IntWalk.i64_in _ (by omega)
        go_wp2
        go_quiet ((go_at_call 57; refine Calls.quiet_of_same (hcall _ ?_); first | exact hbA | exact below_drewN' hbA _))
        have HK' := Lib.hid (And.intro HK.out HCD.out)
        clear y1 y2 HK HCD
        clear HA
        cases acc with
        | none =>
          go_wp2
          go_roundw
          case rel => exact ⟨k + 1, some (tk + max 1 sh), by omega, by go_num, rfl, rfl, Lib.hid (by rw [HK'.out.1, arrStep_none (show ¬ so < 0 by omega), HK'.out.2]), below_drewN' hbA _⟩
          case measure => simp [intOf]; omega
        | some v =>
          have hbv := hbk v rfl
          by_cases hmore : v < tk + max 1 sh
          · go_wp2
            go_roundw
            case rel => exact ⟨k + 1, some (tk + max 1 sh), by omega, by go_num, rfl, rfl, Lib.hid (by rw [HK'.out.1, arrStep_more (show ¬ so < 0 by omega) (by rw [HK'.out.2]; omega), HK'.out.2]), below_drewN' hbA _⟩
            case measure => simp [intOf]; omega
          · go_wp2
            go_roundw
            case rel => exact ⟨k + 1, some v, by omega, by go_num, rfl, rfl, Lib.hid (by rw [HK'.out.1, arrStep_less (show ¬ so < 0 by omega) (by rw [HK'.out.2]; omega)]), below_drewN' hbA _⟩
            case measure => simp [intOf]; omega
    · obtain rfl : k = src.length := by omega
      have HA2 : Hid (acc = arr T src) := Lib.hid (by rw [HA.out, List.take_length])
      clear HA
      go_wp2
      go_ret2
      unfold ArrPost
      rw [← HA2.out]
      exact ⟨rfl, hbel⟩
end Go.Proofs.Ytmjdmpapickgkaa
