import Derived.Test.YtmjdmpapickgkaaZe
import Derived.Test.YtmjdmpapickgkaaZc
import Derived.Deep.QuietTactic
import Derived.BigQuiet
namespace Go.Proofs.Ytmjdmpapickgkaa
open Go.RowKit Go.Kk

/-- the times that a closure tells -/
def Tells53 (w : World) (C n : Nat) (T : Nat → Int) : Prop := ∀ (w1 : World) (k : Int), Below w.heap.size w w1 → 0 ≤ k → k < n → Calls Try.prog 53 #[.int .i64 k, .pointer (some ⟨C, 0, none⟩)] w1 fun e w' => e = .returned (.int .i64 (T k.toNat)) ∧ w' = w1

set_option maxRecDepth 100000 in
set_option maxHeartbeats 2000000 in
theorem arrival53 (o : Opn) (T : Nat → Int) (n C : Nat) (w : World) (hs : IsSrcs w o.h o.src) (hok : OpOk n o) (hT : ∀ k, k < n → -1000000 ≤ T k ∧ T k ≤ 1000000) (HF : Tells53 w C n T) :
    Calls Try.prog 52 #[o.v, .func (.func 53) #[] #[.pointer (some ⟨C, 0, none⟩)]] w (ArrPost T o.src w) := by
  have hsrc := hok.src
  have hlen := hok.len3
  have hb := arr_bd (B := 1000000) hT
  clear hok
  obtain ⟨t, a0, a1, u, kd, oh, src⟩ := o
  unfold Opn.v
  simp only at *
  obtain ⟨bh, ch, hoh⟩ := hs.shape
  subst hoh
  have HS := Lib.hid hs
  have HS' := Lib.hid (And.intro hsrc (And.intro hb hT))
  have HF := Lib.hid HF
  clear hs hsrc hb hT
  go_enter Try.func52, Try.ntmps52
  go_wp2
  go_loopw [6, 7, 14] (fun vl va i wr => ∃ (k : Nat) (acc : Option Int), k ≤ src.length ∧ i = .int .i64 k ∧ vl = .int .i64 (acc.getD 0) ∧ va = .bool acc.isSome ∧ Hid (acc = arr T (src.take k)) ∧ Below w.heap.size w wr) (fun _ _ i _ => src.length - (intOf i).toNat)
  case atStart => exact ⟨0, none, by omega, rfl, rfl, rfl, Lib.hid rfl, below_alloc _ _⟩
  case round =>
    obtain ⟨k, acc, hk, rfl, rfl, rfl, HA, hbel⟩ := hrel
    by_cases hlt : k < src.length
    · obtain ⟨b1, off, cp1, hv, hc, hcl⟩ := Sl.at HS.out (by omega)
      injection hv with hv1 _ hv3
      subst hv1 hv3
      obtain ⟨c0, c1, c2⟩ := src_cells (hcl.keeps (Keeps.of_below hbel)) k hlt
      have hsk := HS'.out.1 src[k] (List.getElem_mem _)
      have hbk : ∀ u, acc = some u → -1000000 ≤ u ∧ u ≤ 1000012 := fun u hu => HS'.out.2.1 (src.take k) (fun s hs => HS'.out.1 s (List.mem_of_mem_take hs)) u (HA.out ▸ hu)
      have hak := arr_take T src k hlt
      rw [← HA.out] at hak
      have hcb := @comes_bd T src[k] n 1000000 HS'.out.2.2
      clear hcl
      generalize src[k] = s at *
      obtain ⟨so, sv, sh⟩ := s
      simp only at *
      by_cases hneg : so < 0
      · rw [arrStep_neg hneg] at hak
        have HK := Lib.hid hak
        clear hak hbk hcb hsk
        have hneg' : decide (so < 0) = true := by simpa using hneg
        go_wp2
        go_roundw
        case rel => exact ⟨k + 1, acc, by omega, by go_num, rfl, rfl, Lib.hid HK.out.symm, hbel.alloc hbel.size _⟩
        case measure => simp [intOf]; omega
      · have h3 : 0 ≤ so ∧ so < n ∧ sv = 0 ∧ 0 ≤ sh ∧ sh ≤ 12 := by rcases hsk with ⟨h, _⟩ | h; · omega
                                                                    · exact h
        obtain ⟨h31, h32, h33, h34, h35⟩ := h3
        have hcv := hcb h31 h32 ⟨h34, h35⟩
        have HK := Lib.hid hak
        clear hak hcb hsk h33
        have hcall := fun w1 hb => HF.out w1 so hb h31 h32
        have hcd : comes T ⟨so, sv, sh⟩ = T so.toNat + max 1 sh := rfl
        rw [hcd] at hcv
        have HCD := Lib.hid hcd
        clear hcd
        have hTk := HS'.out.2.2 so.toNat (by omega)
        generalize T so.toNat = tk at *
        have hbA := hbel.alloc hbel.size (.cells #[.int .i64 so, .int .i64 sv, .int .i64 sh] 52)
        have y1 : IntKind.i64.wrap (tk + sh) = tk + sh := IntWalk.i64_in _ (by omega)
        have y2 : IntKind.i64.wrap (tk + 1) = tk + 1 := IntWalk.i64_in _ (by omega)
        go_wp2
        go_quiet ((go_at_call 53; refine Calls.quiet_of_same (hcall _ ?_); first | exact hbA | exact below_drewN' hbA _))
        have HK' := Lib.hid (And.intro HK.out HCD.out)
        clear y1 y2 HK HCD
        clear HA
        cases acc with
        | none =>
          go_wp2
          go_roundw
          case rel => exact ⟨k + 1, some (tk + max 1 sh), by omega, by go_num, rfl, rfl, Lib.hid (by rw [HK'.out.1, arrStep_none (show ¬ so < 0 by omega), HK'.out.2]), below_drewN' hbA _⟩
          case measure => simp [intOf]; omega
        | some v =>
          have hbv := hbk v rfl
          by_cases hmore : v < tk + max 1 sh
          · go_wp2
            go_roundw
            case rel => exact ⟨k + 1, some (tk + max 1 sh), by omega, by go_num, rfl, rfl, Lib.hid (by rw [HK'.out.1, arrStep_more (show ¬ so < 0 by omega) (by rw [HK'.out.2]; omega), HK'.out.2]), below_drewN' hbA _⟩
            case measure => simp [intOf]; omega
          · go_wp2
            go_roundw
            case rel => exact ⟨k + 1, some v, by omega, by go_num, rfl, rfl, Lib.hid (by rw [HK'.out.1, arrStep_less (show ¬ so < 0 by omega) (by rw [HK'.out.2]; omega)]), below_drewN' hbA _⟩
            case measure => simp [intOf]; omega
    · obtain rfl : k = src.length := by omega
      have HA2 : Hid (acc = arr T src) := Lib.hid (by rw [HA.out, List.take_length])
      clear HA
      go_wp2
      go_ret2
      unfold ArrPost
      rw [← HA2.out]
      exact ⟨rfl, hbel⟩

set_option maxHeartbeats 1000000 in
theorem closure53 (q : List Opn) (g cap n C B : Nat) (E : Nat → Int) (w : World) (hn : q.length = n) (hO : OwnP w B (.slice (some ⟨g, 0, none⟩) n cap) q) (hC : w.cell? ⟨C, 0, none⟩ = some (.slice (some ⟨g, 0, none⟩) n cap)) (hE : ∀ i (h : i < q.length), q[i].time = E i) (hlen : n ≤ 1000000) : Tells53 w C n E := by
  intro w1 k hb h0 hk
  obtain ⟨j, rfl⟩ := Int.eq_ofNat_of_zero_le h0
  have hj : j < q.length := by omega
  have c0 := ((hO.below hb).time hn j hj 0).1
  rw [hE j hj] at c0
  have hC' := Keeps.of_below hb _ _ hC
  have hx : (j : Int).toNat = j := by omega
  rw [hx]
  clear hO hx hn hj
  generalize E j = x at *
  go_enter Try.func53, Try.ntmps53
  go_wp2
  go_ret
  exact ⟨rfl, rfl⟩

/-- p with other times -/
def atT (p : List Opn) (E : Nat → Int) (i : Nat) : Opn := { opn p i with time := E i }
theorem atT_same (p : List Opn) : atT p (timeOf p) = atT p (timeOf p) := rfl
theorem like_atT {p q : List Opn} (h : Like p.length (opn p) q) : Like p.length (atT p (timeOf p)) q := by
  refine ⟨h.len, fun i hi => ?_⟩
  rw [h.at' i hi]
  have : i < p.length := by rw [← h.len]; exact hi
  unfold atT
  rw [timeOf_opn this]
def EarlyPost (p : List Opn) (w : World) (e : Ending) (w' : World) : Prop := ∃ v' q, e = .returned (.tuple #[v', .int .i64 0]) ∧ OwnP w' w.heap.size v' q ∧ Like p.length (atT p (theE p)) q ∧ (∀ i, i < p.length → EAt p (theE p) i ∧ 0 ≤ theE p i ∧ theE p i ≤ 12 * p.length) ∧ Below w.heap.size w w'

set_option maxHeartbeats 400000 in
theorem Early_err (p : List Opn) (v : Value) (w : World) (hl : IsProg w v p) (hlen : Narrow p) (h : readyE p ≠ 0) : Calls Try.prog 29 #[v] w (ErrPost (readyE p) w) := by
  have HR := Lib.hid (ready_any p v w hl hlen)
  have hb : (readyE p != 0) = true := by simpa using h
  clear hl hlen h
  generalize readyE p = er at *
  go_enter Try.func29, Try.ntmps29
  go_wp2_with (first | (go_at_call 37; refine HR.out.mono ?_; rintro e w1 ⟨rfl, h1⟩))
  go_ret2
  exact ⟨rfl, h1⟩

set_option maxRecDepth 100000 in
set_option maxHeartbeats 2000000 in
theorem Early_ok (p : List Opn) (v : Value) (w : World) (hl : IsProg w v p) (hok : okProg p = true) (hw : waitL p = []) (h60 : p.length ≤ 60) : Calls Try.prog 29 #[v] w (EarlyPost p w) := by
  obtain ⟨bs, cq, hval⟩ := hl.1.shape
  subst hval
  have HR := Lib.hid (ready_any p _ w hl (okProg_narrow hok))
  rw [readyE_ok hok hw] at HR
  have HC := Lib.hid (fun w1 (hb : Below w.heap.size w w1) => copied_any p _ w1 (hl.keeps (Keeps.of_below hb)) (okProg_narrow hok))
  have HO := Lib.hid (fun w1 (hb : Below w.heap.size w w1) => ordered_any p _ w1 (hl.keeps (Keeps.of_below hb)) (okProg_narrow hok) h60)
  have HP := Lib.hid (And.intro hok (And.intro hw hl))
  unfold CopyPost at HC
  clear hl hok hw
  go_enter Try.func29, Try.ntmps29
  go_wp2_with (first
    | (go_at_call 37; refine HR.out.mono ?_; rintro e w1 ⟨rfl, h1⟩)
    | (go_at_call 49; refine (HC.out _ h1).mono ?_; rintro e w3 ⟨v3, q3, rfl, hO3, hB3, h3⟩; have hL3 := Lib.hid (Like.of_map hB3); have HO3 := Lib.hid (hO3); obtain ⟨b3, c3, hv3⟩ := (Sl.of_own hO3.row).shape; rw [hL3.out.len] at hv3; subst hv3; have h3' := h1.trans (h3.mono h1.size); clear hO3 hB3)
    | (go_at_call 51; refine (HO.out _ (h3'.alloc h3'.size _)).mono ?_; rintro e w5 ⟨D, d, rfl, hD, hAd, hOrd, h5⟩))
  have hsz5 : w3.heap.size + 1 ≤ w5.heap.size := by have := h5.size; simpa using this
  have hb5 : Below w.heap.size w w5 := (h3'.alloc h3'.size _).trans (h5.mono (by have := h3'.size; simp; omega))
  have hown : ∀ g, (Value.slice b3 p.length c3).ownBlock = some g → w.heap.size ≤ g ∧ g < w3.heap.size := fun g hg => by
    have := HO3.out.row.lt g hg
    have := h1.size
    omega
  have HOw := Lib.hid hown
  have HC5 : Hid (w5.cell? ⟨w3.heap.size, 0, none⟩ = some (.slice b3 p.length c3)) := Lib.hid (Keeps.of_below h5 _ _ (newA w3 _ _ _ 0 _ rfl rfl))
  have HO5 : Hid (OwnP w5 w.heap.size (.slice b3 p.length c3) q3) := Lib.hid (by
    have h2 := (HO3.out.below (below_alloc w3 (.cells #[.slice b3 p.length c3] 22))).below h5
    exact ⟨own_mono h2.row h1.size, h2.src⟩)
  have HD := Lib.hid (And.intro hAd (And.intro hOrd (show w3.heap.size + 1 ≤ D by simpa using hD)))
  clear h1 h3 HO3 hown hAd hOrd hD h5
  go_loopw [20] (fun vi wr => ∃ (k : Nat) (q : List Opn) (E : Nat → Int), k ≤ p.length ∧ vi = .int .i64 k ∧ Hid (Like p.length (atT p E) q) ∧ Hid (OwnP wr w.heap.size (.slice b3 p.length c3) q) ∧ Hid (DE p d E k) ∧ Fr (fun g => (Value.slice b3 p.length c3).ownBlock = some g) w5 wr) (fun vi _ => p.length - (intOf vi).toNat)
  case atStart => exact ⟨0, q3, _, by omega, rfl, Lib.hid (like_atT hL3.out), HO5, Lib.hid (DE.start p d), Fr.refl _ _⟩
  case round =>
    clear HO5 hL3
    obtain ⟨k, q, E, hk, rfl, HL, HQ, HE, hfr⟩ := hrel
    have hb0 : Below w.heap.size w wr := hb5.trans (hfr.below hb5.size (fun g hg => (HOw.out g hg).1))
    have hsz := hfr.size
    by_cases hlt : k < p.length
    · have HAD : Hid (Arr wr D d) := Lib.hid ((hfr.block D (heap_lt HD.out.1) (fun e => by have h1 := (HOw.out D e).2; have h2 := HD.out.2.2; omega)).trans HD.out.1)
      have hdc : wr.cell? ⟨D, k, none⟩ = some (.int .i64 (d[k]! : Nat)) := cell_of_heap HAD.out (by simp [show k < d.size by rw [HD.out.2.1.size]; exact hlt])
      have hCc : wr.cell? ⟨w3.heap.size, 0, none⟩ = some (.slice b3 p.length c3) := hfr.cell HC5.out (fun e => by have := (HOw.out w3.heap.size e).2; omega)
      have hdl := HD.out.2.1.lt k hlt
      have hok := HP.out.1
      have hbd := HE.out.bd hok HD.out.2.1 hk h60
      have HE' := Lib.hid (HE.out.step hok HD.out.2.1 (ready_of hok HP.out.2.1) hlt)
      have hLi := HL.out.len
      obtain ⟨i, hii⟩ : ∃ i, i = d[k]! := ⟨_, rfl⟩
      rw [← hii] at hdl hdc HE'
      have hiq : i < q.length := by omega
      obtain ⟨g, cap, hv3, hBg, hgw⟩ := HQ.out.shape (by omega)
      rw [hLi] at hv3
      injection hv3 with hv31 hv32 hv33
      subst hv31 hv33
      clear hv32
      -- the operation, and when its last value comes
      obtain ⟨b1, off, cp1, hv, hc, hcl⟩ := Sl.at HP.out.2.2.1 (by omega)
      injection hv with hv1 hv2 hv3
      subst hv1 hv3
      clear hv2
      obtain ⟨c0, c1, c2, c3', c4, c5⟩ := op_cells (hcl.keeps (Keeps.of_below hb0)) i hdl
      have ho := opn_eq hdl
      have hoo := okProg_op hok i hdl
      have hs := (HP.out.2.2.2 p[i] (List.getElem_mem _)).keeps (Keeps.of_below hb0)
      rw [← ho] at c0 c1 c2 c3' c4 c5 hoo hs
      have hT : Tells53 wr w3.heap.size p.length E := closure53 q g c3 p.length w3.heap.size w.heap.size E wr hLi HQ.out hCc (fun j hj => by
        have := (bare_time (HL.out.at' j hj)).1
        rw [this]; rfl) (by omega)
      have harr := Lib.hid (arrival53 (opn p i) E p.length w3.heap.size wr hs hoo (fun j hj => by have := hbd j hj; omega) hT)
      have HF : Hid (∀ w6, Below wr.heap.size wr w6 → w6.cell? ⟨w3.heap.size, 0, none⟩ = some (.slice (some ⟨g, 0, none⟩) p.length c3) ∧ w6.cell? ⟨g, i * 6, none⟩ = some (.int .i64 q[i].time) ∧ w6.frozen? ⟨g, i * 6, none⟩ = false ∧ OwnP (w6.setCell ⟨g, i * 6, none⟩ (.int .i64 (earl E (opn p i).src))) w.heap.size (.slice (some ⟨g, 0, none⟩) p.length c3) (q.set i { q[i] with time := earl E (opn p i).src }) ∧
          Fr (fun g' => (Value.slice (some ⟨g, 0, none⟩) p.length c3).ownBlock = some g') w5 (w6.setCell ⟨g, i * 6, none⟩ (.int .i64 (earl E (opn p i).src)))) := Lib.hid fun w6 h6 => by
        obtain ⟨e1, e2, e3⟩ := (HQ.out.below h6).time hLi i hiq (earl E (opn p i).src)
        exact ⟨Keeps.of_below h6 _ _ hCc, e1, e2, e3, (hfr.trans (Fr.of_below h6)).setCell (a := ⟨g, i * 6, none⟩) rfl _⟩
      have HL' := Lib.hid (HL.out.time (f' := atT p (upd E i (earl E (opn p i).src))) i hiq (earl E (opn p i).src) (by simp [atT, upd]) (fun j hj => by simp [atT, upd, hj]))
      obtain ⟨bh, ch, hoh⟩ := hs.shape
      have hil : (i : Int) < (p.length : Int) := by omega
      clear hcl hs hoo ho hT hbd hok HL HQ HE hLi hii
      unfold Opn.v ArrPost at harr
      rw [hoh] at harr c5
      have hee : earl E (opn p i).src = (arr E (opn p i).src).getD 0 := rfl
      rw [hee] at HF HL' HE'
      clear hee hoh
      generalize (arr E (opn p i).src).isSome = bsome at *
      generalize (arr E (opn p i).src).getD 0 = te at *
      generalize (opn p i).src = src at *
      generalize (opn p i).time = t at *
      generalize (opn p i).c0 = a0 at *
      generalize (opn p i).c1 = a1 at *
      generalize (opn p i).unit = u at *
      generalize (opn p i).kind = kd at *
      generalize q[i].time = tq at *
      go_wp2_with (first | (go_at_call 52; refine harr.out.mono ?_; rintro e w6 ⟨rfl, h6⟩; obtain ⟨x1, x2, x3, x4, x5⟩ := HF.out w6 h6; have X4 := Lib.hid x4; clear x4))
      go_roundw
      case rel => exact ⟨k + 1, _, _, by omega, by go_num, HL', X4, HE', x5⟩
      case measure => simp [intOf]; omega
    · obtain rfl : k = p.length := by omega
      have hCc : wr.cell? ⟨w3.heap.size, 0, none⟩ = some (.slice b3 p.length c3) := hfr.cell HC5.out (fun e => by have := (HOw.out w3.heap.size e).2; omega)
      have HF : Hid (EarlyPost p w (.returned (.tuple #[.slice b3 p.length c3, .int .i64 0])) wr) := Lib.hid (by
        have ha := HE.out.all HD.out.2.1
        have he := theE_eq HP.out.1 HP.out.2.1 (fun i hi => ⟨(ha i hi).1, (ha i hi).2.1⟩)
        have h3 : ∀ i, i < p.length → EAt p (theE p) i ∧ 0 ≤ theE p i ∧ theE p i ≤ 12 * p.length := fun i hi => by
          have h1 := ha i hi
          have hr := ready_of HP.out.1 HP.out.2.1
          refine ⟨?_, by rw [← he i hi]; exact h1.2.1, by rw [← he i hi]; exact h1.2.2⟩
          have h2 := h1.1
          unfold EAt at h2 ⊢
          rw [← he i hi, h2]
          exact (earl_congr fun s hs h0 => (he _ (hr i hi s hs h0).1).symm).symm
        refine ⟨_, q, rfl, HQ.out, ⟨HL.out.len, fun i hi => ?_⟩, h3, hb0⟩
        rw [HL.out.at' i hi]
        have hi' : i < p.length := by rw [← HL.out.len]; exact hi
        unfold atT
        rw [he i hi'])
      go_wp2
      go_ret2
      exact HF.out
end Go.Proofs.Ytmjdmpapickgkaa

namespace Go.Proofs.Ytmjdmpapickgkaa
open Go.RowKit Go.Kk

def EarPost (p : List Opn) (G i : Nat) (w : World) (M : Nat → Int) (e : Ending) (w' : World) : Prop :=
  ∃ M', e = .returned (.int .i64 (M' i)) ∧ 0 ≤ M' i ∧ ClE p M' ∧ Ext M M' ∧ ArrV w' G p.length M' ∧ Fr (· = G) w w'

set_option maxRecDepth 100000 in
set_option maxHeartbeats 4000000 in
theorem early_any (p : List Opn) (v : Value) (G : Nat) (hok : okProg p = true) (hr : Ready2 p) (m : Nat) : ∀ (i : Nat) (w : World) (M : Nat → Int), i < p.length → (timeOf p i + 100000).toNat < m → ArrV w G p.length M → ClE p M → PX w v p G →
    Calls Try.prog 54 #[v, .int .i64 i, rowV G p.length] w (EarPost p G i w M) := by
  induction m with
  | zero => intro i w M _ h; omega
  | succ m ih =>
    intro i w M hi hm hA hC hP
    have hl := hP w (Fr.refl _ _)
    obtain ⟨bs, cq, hval⟩ := hl.1.shape
    subst hval
    have hlp := okProg_len hok
    have hGw := heap_lt hA
    have hil : (i : Int) < (p.length : Int) := by omega
    by_cases hM : M i = -1
    rotate_left
    · have hrg : 0 ≤ M i := by
        rcases hC i hi with h | h
        · exact absurd h hM
        · exact h.1
      have c := hA.cell hi
      have HM : Hid (∃ M', M i = M' i ∧ 0 ≤ M' i ∧ ClE p M' ∧ Ext M M' ∧ ArrV w G p.length M') := Lib.hid ⟨M, rfl, hrg, hC, Ext.refl _, hA⟩
      generalize M i = x at *
      have hx : decide (0 ≤ x) = true := by simpa using hrg
      clear hl hA hC hP ih hM hok hr
      go_enter Try.func54, Try.ntmps54
      go_wp2
      go_ret
      obtain ⟨M', h1, h2, h3, h4, h5⟩ := HM.out
      exact ⟨M', by rw [← h1]; rfl, h2, h3, h4, h5, Fr.refl _ _⟩
    · have c := hA.cell hi
      rw [hM] at c
      have hoo := okProg_op hok i hi
      have ho := opn_eq hi
      rw [← ho] at hoo
      have hrd := hr i hi
      have hsrc := hoo.src
      have hlen := hoo.len3
      have HTb := Lib.hid (fun k hk => timeOf_bd hok k hk)
      -- the recursion, by need
      have HI : Hid (∀ (s : Src) (w1 : World) (M1 : Nat → Int), s ∈ (opn p i).src → 0 ≤ s.op → ArrV w1 G p.length M1 → ClE p M1 → PX w1 (.slice bs p.length cq) p G → Calls Try.prog 54 #[.slice bs p.length cq, .int .i64 s.op, rowV G p.length] w1 (EarPost p G s.op.toNat w1 M1)) := Lib.hid fun s w1 M1 hs h0 hA1 hC1 hP1 => by
        obtain ⟨h1, h2⟩ := hrd s hs h0
        obtain ⟨j, hj⟩ := Int.eq_ofNat_of_zero_le h0
        rw [hj] at h1 h2 ⊢
        simp only [Int.toNat_natCast] at h1 h2 ⊢
        have := timeOf_bd hok j h1
        have := timeOf_bd hok i hi
        exact ih j w1 M1 h1 (by omega) hA1 hC1 hP1
      have HF : Hid (∀ (M1 : Nat → Int), ClE p M1 → (∀ s ∈ (opn p i).src, 0 ≤ s.op → 0 ≤ M1 s.op.toNat) → _) := Lib.hid fun M1 h1 h2 => h1.form hok hr hi h2
      have HU : Hid (∀ (M1 : Nat → Int), ClE p M1 → ∀ s ∈ (opn p i).src, 0 ≤ s.op → M1 s.op.toNat ≤ 200000) := Lib.hid fun M1 h1 s hs h0 => by
        obtain ⟨h2, _⟩ := hrd s hs h0
        have := timeOf_bd hok _ h2
        rcases h1 _ h2 with h | h
        · omega
        · omega
      have hop : ∃ b1 off, bs = some ⟨b1, off, none⟩ := by
        obtain ⟨b1, off, cp1, hv, _⟩ := Sl.at hl.1 (by omega)
        injection hv with hv1
        exact ⟨b1, off, hv1⟩
      obtain ⟨b1, off, rfl⟩ := hop
      have HCl : Hid (∀ w1, Fr (· = G) w w1 → w1.cell? ⟨b1, off + i * 6 + 5, none⟩ = some (opn p i).h ∧ IsSrcs w1 (opn p i).h (opn p i).src) := Lib.hid fun w1 h1 => by
        have hl1 := hP w1 h1
        obtain ⟨b2, off2, cp2, hv, _, hcl⟩ := Sl.at hl1.1 (by omega)
        injection hv with hv1 _ hv3
        injection hv1 with hv1
        injection hv1 with hv1 hv2
        subst hv1 hv2 hv3
        obtain ⟨c0, c1, c2, c3, c4, c5⟩ := op_cells hcl i hi
        rw [ho]
        exact ⟨c5, hl1.2 p[i] (List.getElem_mem _)⟩
      have HX := Lib.hid (And.intro hA (And.intro hC hP))
      clear hl hA hC hP ih hM hok hr hoo ho hrd
      generalize opn p i = o at *
      obtain ⟨t, a0, a1, u, kd, oh, src⟩ := o
      simp only at *
      obtain ⟨bh, ch, hoh⟩ := (HCl.out w (Fr.refl _ _)).2.shape
      subst hoh
      have HS := Lib.hid hsrc
      clear hsrc
      go_enter Try.func54, Try.ntmps54
      go_wp2
      go_loopw [7, 8] (fun vt vk wr => ∃ (j : Nat) (Mj : Nat → Int) (tj : Int), j ≤ src.length ∧ vk = .int .i64 j ∧ vt = .int .i64 tj ∧ Hid (tj = earl Mj (src.take j)) ∧ Hid (ArrV wr G p.length Mj ∧ ClE p Mj ∧ Ext M Mj ∧ ∀ s ∈ src.take j, 0 ≤ s.op → 0 ≤ Mj s.op.toNat) ∧ 0 ≤ tj ∧ tj ≤ 300000 ∧ Fr (· = G) w wr) (fun _ vk _ => src.length - (intOf vk).toNat)
      case atStart => exact ⟨0, M, 0, by omega, rfl, rfl, Lib.hid rfl, Lib.hid ⟨HX.out.1, HX.out.2.1, Ext.refl _, by simp⟩, by omega, by omega, Fr.refl _ _⟩
      case round =>
        obtain ⟨j, Mj, tj, hj, rfl, rfl, HT, HJ, ht0, ht1, hfr⟩ := hrel
        obtain ⟨c5, hs⟩ := HCl.out wr hfr
        have hsz := hfr.size
        by_cases hjl : j < src.length
        · obtain ⟨b2, of2, cp2, hv, hc2, hcl2⟩ := Sl.at hs (by omega)
          injection hv with hv1 _ hv3
          subst hv1 hv3
          obtain ⟨d0, d1, d2⟩ := src_cells hcl2 j hjl
          have hsk := HS.out src[j] (List.getElem_mem _)
          have hmem : src[j] ∈ src := List.getElem_mem _
          have hcall := fun w1 M1 => HI.out src[j] w1 M1 hmem
          have hu := fun M1 h1 => HU.out M1 h1 src[j] hmem
          have HMm : Hid (∀ s ∈ src.take (j + 1), s ∈ src.take j ∨ s = src[j]) := Lib.hid fun s hs => by rw [List.take_succ_eq_append_getElem hjl] at hs; exact (List.mem_append.1 hs).imp id List.mem_singleton.1
          -- the running greatest, one source more
          have HE : Hid (∀ (M1 : Nat → Int), (∀ s ∈ src.take (j + 1), 0 ≤ s.op → 0 ≤ M1 s.op.toNat) → earl M1 (src.take (j + 1)) = if src[j].op < 0 then earl M1 (src.take j) else max (earl M1 (src.take j)) (M1 src[j].op.toNat + max 1 src[j].hops)) := Lib.hid fun M1 h1 => by
            exact earl_take M1 src j hjl (fun h0 => by
              have h2 := h1 src[j] (by rw [List.take_succ_eq_append_getElem hjl]; exact List.mem_append_right _ (List.mem_singleton.2 rfl)) h0
              unfold comes
              omega)
          clear hcl2 hmem hs
          have hbox : Fr (· = G) w (wr.alloc (.cells #[.int .i64 src[j].op, .int .i64 src[j].val, .int .i64 src[j].hops] 52)) := hfr.alloc _
          have hAb : ArrV (wr.alloc (.cells #[.int .i64 src[j].op, .int .i64 src[j].val, .int .i64 src[j].hops] 52)) G p.length Mj := HJ.out.1.of_block (heap_alloc_old _ _ (by omega))
          generalize src[j] = s at *
          obtain ⟨so, sv, sh⟩ := s
          simp only at *
          by_cases hneg : so < 0
          · have HM1 : Hid (∀ s ∈ src.take (j + 1), 0 ≤ s.op → 0 ≤ Mj s.op.toNat) := Lib.hid fun s hs h0 => by
              rcases HMm.out s hs with h | rfl
              · exact HJ.out.2.2.2 s h h0
              · simp only at h0; omega
            have HT1 : Hid (tj = earl Mj (src.take (j + 1))) := Lib.hid (by rw [HE.out Mj HM1.out, if_pos hneg]; exact HT.out)
            have hnd : decide (0 ≤ so) = false := by simp; omega
            have HAb := Lib.hid hAb
            clear hsk hcall hu hAb
            go_wp2
            go_roundw
            case rel => exact ⟨j + 1, Mj, tj, by omega, by go_num, rfl, HT1, Lib.hid ⟨HAb.out, HJ.out.2.1, HJ.out.2.2.1, HM1.out⟩, by omega, by omega, hbox⟩
            case measure => simp [intOf]; omega
          · have h0 : 0 ≤ so := by omega
            have hh : 0 ≤ sh ∧ sh ≤ 12 := by rcases hsk with h | h <;> omega
            have hcall' := Lib.hid (fun (hA : ArrV (wr.alloc (.cells #[.int .i64 so, .int .i64 sv, .int .i64 sh] 52)).drew G p.length Mj) hP => hcall _ Mj h0 hA HJ.out.2.1 hP)
            have HPd := Lib.hid (And.intro (show ArrV (wr.alloc (.cells #[.int .i64 so, .int .i64 sv, .int .i64 sh] 52)).drew G p.length Mj from hAb) (HX.out.2.2.trans hbox.drew))
            have hx0 : (wr.alloc (.cells #[.int .i64 so, .int .i64 sv, .int .i64 sh] 52)).cell? ⟨wr.heap.size, 0, none⟩ = some (.int .i64 so) := newA _ _ _ _ _ _ rfl rfl
            have hx2 : (wr.alloc (.cells #[.int .i64 so, .int .i64 sv, .int .i64 sh] 52)).cell? ⟨wr.heap.size, 2, none⟩ = some (.int .i64 sh) := newA _ _ _ _ _ _ rfl rfl
            have hnd : decide (0 ≤ so) = true := by simpa using h0
            have hHU := fun M1 h1 => hu M1 h1 h0
            unfold EarPost at hcall'
            clear hsk hcall hu
            go_wp2
            have hbw := hbox.drew
            have hsW : wr.heap.size < (wr.alloc (.cells #[.int .i64 so, .int .i64 sv, .int .i64 sh] 52)).heap.size := by simp
            clear hbox hAb
            generalize wr.alloc (.cells #[.int .i64 so, .int .i64 sv, .int .i64 sh] 52) = W at *
            go_region_held3 (fun w' => w'.cell? ⟨wr.heap.size, 0, none⟩ = some (.int .i64 so) ∧ w'.cell? ⟨wr.heap.size, 2, none⟩ = some (.int .i64 sh)) (go_keep)
              ((go_at_call 54; go_must (refine (hcall'.out HPd.out.1 HPd.out.2).mono ?_); go_must (rintro e w5 ⟨M5, rfl, hr5, hC5, hE5, hA5, hf5⟩); go_must (have q0 := hf5.cell (a := ⟨wr.heap.size, 0, none⟩) (w := W.drew) hx0 (by simp; omega)); go_must (have q2 := hf5.cell (a := ⟨wr.heap.size, 2, none⟩) (w := W.drew) hx2 (by simp; omega)); go_must (have hz5 := hHU M5 hC5); go_must (have H5 := Lib.hid (And.intro hC5 (And.intro hE5 (And.intro hA5 (show M5 so.toNat = M5 so.toNat from rfl))))); generalize hz : M5 so.toNat = z5 at *; have y1 : IntKind.i64.wrap (z5 + max 1 sh) = z5 + max 1 sh := IntWalk.i64_in _ (by omega)))
            all_goals
              clear y1 q0 q2
              have HM1 : Hid (∀ s ∈ src.take (j + 1), 0 ≤ s.op → 0 ≤ M5 s.op.toNat) := Lib.hid fun s hs h0 => by
                rcases HMm.out s hs with h | rfl
                · exact H5.out.2.1.pos (HJ.out.2.2.2 s h h0)
                · simp only; rw [hz]; exact hr5
              have HT1 : Hid (max tj (z5 + max 1 sh) = earl M5 (src.take (j + 1))) := Lib.hid (by
                rw [HE.out M5 HM1.out, if_neg (by omega), hz, HT.out]
                congr 1
                exact (earl_congr fun s hs h0 => H5.out.2.1 _ (by have := HJ.out.2.2.2 s hs h0; omega)).symm)
              have HZ := Lib.hid hz
              clear hz
              go_wp2
              go_roundw
              case rel => exact ⟨j + 1, M5, _, by omega, by go_num, rfl, HT1, Lib.hid ⟨H5.out.2.2.1, H5.out.1, HJ.out.2.2.1.trans H5.out.2.1, HM1.out⟩, by omega, by omega, hbw.trans hf5⟩
              case measure => simp [intOf]; omega
        · obtain rfl : j = src.length := by omega
          have hJ := HJ.out
          have hT := HT.out
          rw [List.take_length] at hJ hT
          obtain ⟨hAj, hCj, hEj, hRj⟩ := hJ
          obtain ⟨hC6, hE6, h60, h61⟩ := HF.out Mj hCj hRj
          rw [← hT] at hC6 hE6 h60
          have cx := hAj.cell hi
          have fx := hAj.frozen i
          have hA7 := Lib.hid (hAj.set i tj)
          have HZ := Lib.hid (And.intro hC6 (hEj.trans hE6))
          clear HT HJ hT hAj hCj hEj hRj hC6 hE6 h61
          go_wp2
          go_ret
          exact ⟨upd Mj i tj, by rw [upd_same]; rfl, by rw [upd_same]; exact ht0, HZ.out.1, HZ.out.2, hA7.out, hfr.setCell (a := ⟨G, i, none⟩) rfl _⟩
end Go.Proofs.Ytmjdmpapickgkaa

namespace Go.Proofs.Ytmjdmpapickgkaa
open Go.RowKit Go.Kk

theorem OwnS.fr {w w1 : World} {B : Nat} {v : Value} {q : List Opn} {S : Nat → Prop} (h : OwnS w B v q) (hf : Fr S w w1) (hS : ∀ k, S k → k < B) : OwnS w1 B v q :=
  ⟨own_frS h.row hf fun g hg hs => by have := (h.row.lt g hg).1; have := hS g hs; omega,
   fun i hi => own_frS (h.srcs i hi) hf fun g hg hs => by have := ((h.srcs i hi).lt g hg).1; have := hS g hs; omega, h.main, h.apart⟩
theorem set_h {q : List Opn} {i : Nat} (hi : i < q.length) (t' : Int) (j : Nat) (hj : j < (q.set i { q[i] with time := t' }).length) : (q.set i { q[i] with time := t' })[j].h = (q[j]'(by simpa using hj)).h ∧ (q.set i { q[i] with time := t' })[j].src = (q[j]'(by simpa using hj)).src := by
  by_cases e : i = j
  · subst e; simp
  · rw [List.getElem_set_ne e]; exact ⟨rfl, rfl⟩
theorem OwnS.time {w : World} {B g cap n : Nat} {q : List Opn} (h : OwnS w B (.slice (some ⟨g, 0, none⟩) n cap) q) (hn : q.length = n) (i : Nat) (hi : i < q.length) (t' : Int) :
    w.cell? ⟨g, i * 6, none⟩ = some (.int .i64 q[i].time) ∧ w.frozen? ⟨g, i * 6, none⟩ = false ∧ OwnS (w.setCell ⟨g, i * 6, none⟩ (.int .i64 t')) B (.slice (some ⟨g, 0, none⟩) n cap) (q.set i { q[i] with time := t' }) := by
  obtain ⟨h1, h2, h3⟩ := h.ownP.time hn i hi t'
  refine ⟨h1, h2, h3.row, fun j hj => ?_, fun j hj => ?_, fun j k hj hk hne => ?_⟩
  · obtain ⟨e1, e2⟩ := set_h hi t' j hj
    rw [e1, e2]
    have hj' : j < q.length := by simpa using hj
    refine own_frS (h.srcs j hj') ((Fr.refl (fun k => k = g) w).setCell (a := ⟨g, i * 6, none⟩) rfl _) fun g2 hg e => ?_
    rcases h.main j hj' with h4 | h4
    · rw [h4] at hg; cases hg
    · exact h4 (by rw [hg, e]; rfl)
  · rw [(set_h hi t' j hj).1]; exact h.main j (by simpa using hj)
  · rw [(set_h hi t' j hj).1, (set_h hi t' k hk).1]; exact h.apart j k (by simpa using hj) (by simpa using hk) hne

/-- the first k operations with new times -/
def earlyTo (p : List Opn) (M : Nat → Int) (k i : Nat) : Opn := if i < k then atT p M i else opn p i
theorem earlyTo_zero (p : List Opn) (M : Nat → Int) : earlyTo p M 0 = opn p := by funext i; simp [earlyTo]
theorem earlyTo_ext {p : List Opn} {M M' : Nat → Int} (h : Ext M M') {k : Nat} (hp : ∀ i, i < k → 0 ≤ M i) : earlyTo p M' k = earlyTo p M k := by
  funext i
  unfold earlyTo
  by_cases hi : i < k
  · rw [if_pos hi, if_pos hi]
    unfold atT
    rw [h i (by have := hp i hi; omega)]
  · rw [if_neg hi, if_neg hi]
theorem earlyTo_same (p : List Opn) (M : Nat → Int) (k : Nat) : earlyTo p M (k + 1) k = { earlyTo p M k k with time := M k } := by simp [earlyTo, atT]
theorem earlyTo_other (p : List Opn) (M : Nat → Int) (k : Nat) : ∀ i, i ≠ k → earlyTo p M (k + 1) i = earlyTo p M k i := by
  intro i hi
  unfold earlyTo
  by_cases h : i < k
  · rw [if_pos h, if_pos (by omega)]
  · rw [if_neg h, if_neg (by omega)]

def EarlySPost (p : List Opn) (w : World) (e : Ending) (w' : World) : Prop := ∃ v' q B, e = .returned (.tuple #[v', .int .i64 0]) ∧ OwnS w' B v' q ∧ Like p.length (atT p (theE p)) q ∧ Below w.heap.size w w'

set_option maxHeartbeats 400000 in
theorem refEarly_bad (p : List Opn) (v : Value) (w : World) (hl : IsProg w v p) (hlen : Narrow p) (hok : okProg p = false) : Calls Try.prog 30 #[v] w (ErrPost 80 w) := by
  have HV := Lib.hid (refValid_any p v w hl hlen)
  rw [hok] at HV
  clear hl hok
  go_enter Try.func30, Try.ntmps30
  go_wp2_with (first | (go_at_call 17; refine HV.out.mono ?_; rintro e w1 ⟨rfl, h1⟩))
  go_ret2
  exact ⟨rfl, h1⟩
set_option maxHeartbeats 400000 in
theorem refEarly_wait (p : List Opn) (v : Value) (w : World) (hl : IsProg w v p) (hok : okProg p = true) (hw : waitL p ≠ []) : Calls Try.prog 30 #[v] w (ErrPost 82 w) := by
  have HV := Lib.hid (refValid_any p v w hl (okProg_narrow hok))
  rw [hok] at HV
  have HW := Lib.hid (fun w1 (hb : Below w.heap.size w w1) => refwaits_any p v w1 (hl.keeps (Keeps.of_below hb)) hok)
  have hpos : 0 < (ints (waitL p)).length := by simp only [ints, List.length_map]; exact List.length_pos_iff.2 hw
  have hle : (ints (waitL p)).length ≤ 4000 := by have h1 : (waitL p).length ≤ p.length := filter_len (fun i => waitsB (timeOf p) (opn p i)) p.length; have := okProg_len hok; simp only [ints, List.length_map]; omega
  clear hl hok hw
  go_enter Try.func30, Try.ntmps30
  go_wp2_with (first
    | (go_at_call 17; refine HV.out.mono ?_; rintro e w1 ⟨rfl, h1⟩)
    | (go_at_call 43; refine (HW.out _ h1).mono ?_; rintro e w3 ⟨v', rfl, hv, h3⟩; obtain ⟨bv, cv, rfl⟩ := hv.shape))
  go_ret2
  exact ⟨rfl, h1.trans (h3.mono h1.size)⟩

set_option maxRecDepth 100000 in
set_option maxHeartbeats 2000000 in
theorem refEarly_ok (p : List Opn) (v : Value) (w : World) (hl : IsProg w v p) (hok : okProg p = true) (hw : waitL p = []) (h60 : p.length ≤ 60) : Calls Try.prog 30 #[v] w (EarlySPost p w) := by
  obtain ⟨bs, cq, hval⟩ := hl.1.shape
  subst hval
  obtain ⟨i0, hi, hz0, hz1, hz2⟩ := info_parts (show (Try.prog.info? 3).map (fun i => (i.zero, i.size, i.bytes)) = some (some (.int .i64 0), 1, 8) by kernel_rfl)
  have hu : Try.prog.underlying 25 = some (.slice 3) := by kernel_rfl
  have HV := Lib.hid (refValid_any p _ w hl (okProg_narrow hok))
  rw [hok] at HV
  have HW := Lib.hid (fun w1 (hb : Below w.heap.size w w1) => refwaits_any p _ w1 (hl.keeps (Keeps.of_below hb)) hok)
  have HCp := Lib.hid (fun w1 (hb : Below w.heap.size w w1) => refCopied_any p _ w1 (hl.keeps (Keeps.of_below hb)) (okProg_narrow hok))
  unfold CopySPost at HCp
  have hwl : (ints (waitL p)).length = 0 := by rw [hw]; rfl
  have HR := Lib.hid (ready2_of hok hw)
  have HP := Lib.hid (And.intro hok (And.intro hw hl))
  clear hl hok hw
  go_enter Try.func30, Try.ntmps30
  go_wp2_with (first
    | (go_at_call 17; refine HV.out.mono ?_; rintro e w1 ⟨rfl, h1⟩)
    | (go_at_call 43; refine (HW.out _ h1).mono ?_; rintro e w3 ⟨v', rfl, hv, h3⟩; obtain ⟨bv, cv, rfl⟩ := hv.shape; have h3' := h1.trans (h3.mono h1.size); rw [hwl])
    | (at_make; refine wpList_make_full _ rfl _ _ 25 rfl w3.heap.size 3 i0 (.int .i64 0) 1 hu hi hz0 hz1 .i64 .i64 _ _ p.length rfl rfl rfl rfl (by rw [hz2]; omega) (by unfold maxLen; omega) (by simp) ?_; intro w4 hown hgrow))
  have hA4 : Hid (ArrV w4 w3.heap.size p.length (fun _ => 0)) := Lib.hid (by
    obtain ⟨_, hA⟩ := arr_of_made hown (by simp only [madeCells, Value.cells]; apply List.ext_getElem <;> simp [Nat.mod_one])
    unfold ArrV
    rw [hA]
    congr 2
    apply Array.ext <;> simp)
  have hb4 : Below w.heap.size w w4 := h3'.grown hgrow h3'.size (by simp)
  have hs3 := h3'.size
  have hw34 : w3.heap.size < w4.heap.size := heap_lt hA4.out
  clear hown hgrow h1 h3 h3' hwl hv
  generalize w3.heap.size = G at *
  go_loopw [5] (fun vi wr => ∃ k : Nat, k ≤ p.length ∧ vi = .int .i64 k ∧ Hid (ArrV wr G p.length (fun i => if i < k then -1 else 0)) ∧ Fr (· = G) w4 wr) (fun vi _ => p.length - (intOf vi).toNat)
  case atStart => exact ⟨0, by omega, rfl, Lib.hid (by simpa using hA4.out), Fr.refl _ _⟩
  case round =>
    clear hA4
    obtain ⟨k, hk, rfl, HA, hfr⟩ := hrel
    by_cases hlt : k < p.length
    · have c := HA.out.cell hlt
      have f := HA.out.frozen k
      have HA2 : Hid (ArrV (wr.setCell ⟨G, k, none⟩ (.int .i64 (-1))) G p.length (fun i => if i < k + 1 then -1 else 0)) := Lib.hid (by
        have h1 := HA.out.set k (-1)
        have h2 : upd (fun i => if i < k then (-1 : Int) else 0) k (-1) = fun i => if i < k + 1 then -1 else 0 := by
          funext j
          unfold upd
          by_cases e : j = k
          · subst e; simp
          · rw [if_neg e]; dsimp only; by_cases h : j < k
            · rw [if_pos h, if_pos (by omega)]
            · rw [if_neg h, if_neg (by omega)]
        rwa [h2] at h1)
      have hfr2 := hfr.setCell (a := ⟨G, k, none⟩) rfl (.int .i64 (-1))
      simp only [Nat.lt_irrefl, if_false] at c
      go_wp2
      go_roundw
      case rel => exact ⟨k + 1, by omega, by go_num, HA2, hfr2⟩
      case measure => simp [intOf]; omega
    · obtain rfl : k = p.length := by omega
      have hAr : ArrV wr G p.length (fun i => if i < p.length then -1 else 0) := HA.out
      have hbr : Below w.heap.size w wr := hb4.trans (hfr.below hb4.size (fun j hj => by omega))
      have hGr : G < wr.heap.size := heap_lt hAr
      have HAr := Lib.hid hAr
      clear HA hAr
      obtain ⟨w5, hw5⟩ : ∃ x, x = wr := ⟨wr, rfl⟩
      subst hw5
      go_wp2_with (go_at_call 47; refine (HCp.out _ hbr).mono ?_; rintro e w6 ⟨v6, q6, rfl, hO6, hB6, h6⟩; have hL6 := Lib.hid (Like.of_map hB6); have HO6 := Lib.hid hO6; obtain ⟨b6, c6, hv6⟩ := (Sl.of_own hO6.row).shape; rw [hL6.out.len] at hv6; subst hv6; clear hO6 hB6)
      have hb6 : Below w.heap.size w w6 := hbr.trans (h6.mono hbr.size)
      have hG6 : G < w6.heap.size := by have := h6.size; omega
      have HA6 : Hid (∃ M, ArrV w6 G p.length M ∧ ClE p M) := Lib.hid ⟨fun i => if i < p.length then -1 else 0, HAr.out.of_block (h6.block G hGr), fun j hj => .inl (if_pos hj)⟩
      have HOw : Hid (∀ g, (Value.slice b6 p.length c6).ownBlock = some g → w5.heap.size ≤ g) := Lib.hid fun g hg => (HO6.out.row.lt g hg).1
      clear HAr h6
      go_loopw [7] (fun vi wr => ∃ (k : Nat) (q : List Opn) (M : Nat → Int), k ≤ p.length ∧ vi = .int .i64 k ∧ Hid (Like p.length (earlyTo p M k) q) ∧ Hid (OwnS wr w5.heap.size (.slice b6 p.length c6) q) ∧ Hid (ArrV wr G p.length M) ∧ Hid (ClE p M) ∧ Hid (∀ j, j < k → 0 ≤ M j) ∧ Fr (fun g => g = G ∨ (Value.slice b6 p.length c6).ownBlock = some g) w6 wr) (fun vi _ => p.length - (intOf vi).toNat)
      case atStart =>
        obtain ⟨M, h1, h2⟩ := HA6.out
        exact ⟨0, q6, M, by omega, rfl, by rw [earlyTo_zero]; exact hL6, HO6, Lib.hid h1, Lib.hid h2, Lib.hid fun j hj => by omega, Fr.refl _ _⟩
      case round =>
        clear HA6 hL6 HO6
        obtain ⟨k, q, M, hk, rfl, HL, HQ, HA, HC, HN, hfr⟩ := hrel
        have hb0 : Below w.heap.size w wr := hb6.trans (hfr.below hb6.size (fun g hg => by
          rcases hg with h | h
          · omega
          · have := HOw.out g h; have := hbr.size; omega))
        have hsz := hfr.size
        by_cases hlt : k < p.length
        · have hcall := Lib.hid (early_any p (.slice bs p.length cq) G HP.out.1 HR.out _ k wr M hlt (Nat.lt_succ_self _) HA.out HC.out (PX.of HP.out.2.2 hb0 hs3))
          unfold EarPost at hcall
          have hLq := HL.out.len
          have hkq : k < q.length := by omega
          obtain ⟨g, cap, hv6, hBg, hgw⟩ := HQ.out.ownP.shape (by omega)
          rw [hLq] at hv6
          injection hv6 with hv61 hv62 hv63
          subst hv61 hv63
          clear hv62
          have HF : Hid (∀ (w7 : World) (M5 : Nat → Int), Fr (· = G) wr w7 → Ext M M5 → ClE p M5 → 0 ≤ M5 k → ArrV w7 G p.length M5 → (∃ u, w7.cell? ⟨g, k * 6, none⟩ = some u) ∧ w7.frozen? ⟨g, k * 6, none⟩ = false ∧
              ∃ q', Like p.length (earlyTo p M5 (k + 1)) q' ∧ OwnS (w7.setCell ⟨g, k * 6, none⟩ (.int .i64 (M5 k))) w5.heap.size (.slice (some ⟨g, 0, none⟩) p.length c6) q' ∧ ArrV (w7.setCell ⟨g, k * 6, none⟩ (.int .i64 (M5 k))) G p.length M5 ∧ (∀ j, j < k + 1 → 0 ≤ M5 j) ∧
                Fr (fun g' => g' = G ∨ (Value.slice (some ⟨g, 0, none⟩) p.length c6).ownBlock = some g') w6 (w7.setCell ⟨g, k * 6, none⟩ (.int .i64 (M5 k)))) := Lib.hid fun w7 M5 h7 hE hC hp hA7 => by
            have hO7 := HQ.out.fr h7 (fun j hj => by omega)
            obtain ⟨e1, e2, e3⟩ := hO7.time hLq k hkq (M5 k)
            refine ⟨⟨_, e1⟩, e2, _, ?_, e3, hA7.of_block (Below.heap_setCell _ _ _ _ (by simp; omega)), fun j hj => ?_, ?_⟩
            · have h1 := HL.out
              rw [← earlyTo_ext hE HN.out] at h1
              exact h1.time k hkq (M5 k) (earlyTo_same p M5 k) (earlyTo_other p M5 k)
            · by_cases e : j = k
              · subst e; exact hp
              · exact hE.pos (HN.out j (by omega))
            · exact (hfr.trans (h7.mono fun j hj => .inl hj)).setCell (a := ⟨g, k * 6, none⟩) (.inr rfl) _
          clear HL HQ HA HN hLq hkq
          go_wp2_with (go_at_call 54; refine hcall.out.mono ?_; rintro e w7 ⟨M5, rfl, hr5, hC5, hE5, hA5, hf5⟩; obtain ⟨⟨ux, x1⟩, x2, q', x3, x4, x5, x6, x7⟩ := HF.out w7 M5 hf5 hE5 hC5 hr5 hA5; have X := Lib.hid (And.intro x3 (And.intro x4 (And.intro x5 (And.intro x6 (And.intro x7 hC5))))); clear x3 x4 x5 x6 x7 hC5 hE5 hA5 hf5; generalize hz : M5 k = z5 at *)
          go_roundw
          case rel => exact ⟨k + 1, q', M5, by omega, by go_num, Lib.hid X.out.1, Lib.hid X.out.2.1, Lib.hid X.out.2.2.1, Lib.hid X.out.2.2.2.2.2, Lib.hid X.out.2.2.2.1, X.out.2.2.2.2.1⟩
          case measure => simp [intOf]; omega
        · obtain rfl : k = p.length := by omega
          go_wp2
          go_ret2
          refine ⟨_, q, w5.heap.size, rfl, HQ.out, ⟨HL.out.len, fun i hi => ?_⟩, hb0⟩
          have hi' : i < p.length := by rw [← HL.out.len]; exact hi
          have hall : ∀ i, i < p.length → EAt p M i ∧ 0 ≤ M i := fun i hi => by
            rcases HC.out i hi with h | h
            · have := HN.out i hi; omega
            · exact ⟨h.2.2.1, h.1⟩
          rw [HL.out.at' i hi]
          unfold earlyTo atT
          rw [if_pos hi', theE_eq HP.out.1 HP.out.2.1 hall i hi']
end Go.Proofs.Ytmjdmpapickgkaa
