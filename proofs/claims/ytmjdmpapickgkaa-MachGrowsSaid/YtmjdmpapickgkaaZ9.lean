import Derived.Test.YtmjdmpapickgkaaZ8
import Derived.Test.YtmjdmpapickgkaaZ7
import Derived.Deep.QuietTactic
import Derived.BigQuiet
namespace Go.Proofs.Ytmjdmpapickgkaa
open Go.RowKit Go.Kk

theorem mul_rng {a b : Int} (ha : Rng a) (hb : Rng b) : 0 ≤ a * b ∧ a * b ≤ 100120036 := by
  refine ⟨Int.mul_nonneg ha.1 hb.1, ?_⟩
  have := Int.mul_le_mul ha.2 hb.2 hb.1 (by omega)
  omega

set_option maxHeartbeats 400000 in
theorem does1 (a b c : Int) (ha : Rng a) (hb : Rng b) (hc : Rng c) (w : World) : Calls Try.prog 68 #[.int .i64 a, .int .i64 b, .int .i64 c] w fun e w' => e = .returned (.int .i64 (opVal 1 a b c)) ∧ w' = w := by
  have h1 := mul_rng ha hb
  have h2 := mul_rng hb hc
  unfold Rng at ha hb hc
  have ho : opVal 1 a b c = a := by simp [opVal]
  rw [ho]
  clear ho
  go_enter Try.func68, Try.ntmps68
  go_wp2
  go_ret
  exact ⟨rfl, rfl⟩

set_option maxHeartbeats 400000 in
theorem does2 (a b c : Int) (ha : Rng a) (hb : Rng b) (hc : Rng c) (w : World) : Calls Try.prog 69 #[.int .i64 a, .int .i64 b, .int .i64 c] w fun e w' => e = .returned (.int .i64 (opVal 2 a b c)) ∧ w' = w := by
  have h1 := mul_rng ha hb
  have h2 := mul_rng hb hc
  unfold Rng at ha hb hc
  have ho : opVal 2 a b c = a + b := by simp [opVal]
  rw [ho]
  clear ho
  go_enter Try.func69, Try.ntmps69
  go_wp2
  go_ret
  exact ⟨rfl, rfl⟩

set_option maxHeartbeats 400000 in
theorem does3 (a b c : Int) (ha : Rng a) (hb : Rng b) (hc : Rng c) (w : World) : Calls Try.prog 70 #[.int .i64 a, .int .i64 b, .int .i64 c] w fun e w' => e = .returned (.int .i64 (opVal 3 a b c)) ∧ w' = w := by
  have h1 := mul_rng ha hb
  have h2 := mul_rng hb hc
  unfold Rng at ha hb hc
  have ho : opVal 3 a b c = a - b + 10007 := by simp [opVal]
  rw [ho]
  clear ho
  go_enter Try.func70, Try.ntmps70
  go_wp2
  go_ret
  exact ⟨rfl, rfl⟩

set_option maxHeartbeats 400000 in
theorem does4 (a b c : Int) (ha : Rng a) (hb : Rng b) (hc : Rng c) (w : World) : Calls Try.prog 71 #[.int .i64 a, .int .i64 b, .int .i64 c] w fun e w' => e = .returned (.int .i64 (opVal 4 a b c)) ∧ w' = w := by
  have h1 := mul_rng ha hb
  have h2 := mul_rng hb hc
  unfold Rng at ha hb hc
  have ho : opVal 4 a b c = a * b := by simp [opVal]
  rw [ho]
  clear ho
  go_enter Try.func71, Try.ntmps71
  go_wp2
  go_ret
  exact ⟨rfl, rfl⟩

set_option maxHeartbeats 400000 in
theorem does5 (a b c : Int) (ha : Rng a) (hb : Rng b) (hc : Rng c) (w : World) : Calls Try.prog 72 #[.int .i64 a, .int .i64 b, .int .i64 c] w fun e w' => e = .returned (.int .i64 (opVal 5 a b c)) ∧ w' = w := by
  have h1 := mul_rng ha hb
  have h2 := mul_rng hb hc
  unfold Rng at ha hb hc
  have ho : opVal 5 a b c = a + b * c := by simp [opVal]
  rw [ho]
  clear ho
  go_enter Try.func72, Try.ntmps72
  go_wp2
  go_ret
  exact ⟨rfl, rfl⟩

set_option maxHeartbeats 400000 in
theorem does6 (a b c : Int) (ha : Rng a) (hb : Rng b) (hc : Rng c) (w : World) : Calls Try.prog 73 #[.int .i64 a, .int .i64 b, .int .i64 c] w fun e w' => e = .returned (.int .i64 (opVal 6 a b c)) ∧ w' = w := by
  have h1 := mul_rng ha hb
  have h2 := mul_rng hb hc
  unfold Rng at ha hb hc
  have ho : opVal 6 a b c = max a b := by simp [opVal]
  rw [ho]
  clear ho
  go_enter Try.func73, Try.ntmps73
  go_wp2
  go_ret
  exact ⟨rfl, rfl⟩

set_option maxHeartbeats 400000 in
theorem does7 (a b c : Int) (ha : Rng a) (hb : Rng b) (hc : Rng c) (w : World) : Calls Try.prog 74 #[.int .i64 a, .int .i64 b, .int .i64 c] w fun e w' => e = .returned (.int .i64 (opVal 7 a b c)) ∧ w' = w := by
  have h1 := mul_rng ha hb
  have h2 := mul_rng hb hc
  unfold Rng at ha hb hc
  have ho : opVal 7 a b c = min a b := by simp [opVal]
  rw [ho]
  clear ho
  go_enter Try.func74, Try.ntmps74
  go_wp2
  go_ret
  exact ⟨rfl, rfl⟩

theorem opVal_rng {k a b c : Int} (ha : Rng a) (hb : Rng b) (hc : Rng c) : 0 ≤ opVal k a b c ∧ opVal k a b c ≤ 200000000 := by
  have h1 := mul_rng ha hb
  have h2 := mul_rng hb hc
  unfold Rng at ha hb hc
  unfold opVal
  repeat' split
  all_goals omega
end Go.Proofs.Ytmjdmpapickgkaa

namespace Go.Proofs.Ytmjdmpapickgkaa
open Go.RowKit Go.Kk

/-- block G holds the n values V -/
def ArrV (w : World) (G n : Nat) (V : Nat → Int) : Prop := w.heap[G]? = some (.cells ((Array.range n).map fun i => Value.int .i64 (V i)) 3 (0, 0))
theorem ArrV.cell {w : World} {G n : Nat} {V : Nat → Int} (h : ArrV w G n V) {i : Nat} (hi : i < n) : w.cell? ⟨G, i, none⟩ = some (.int .i64 (V i)) := cell_of_heap h (by simp [hi])
theorem ArrV.frozen {w : World} {G n : Nat} {V : Nat → Int} (h : ArrV w G n V) (i : Nat) : w.frozen? ⟨G, i, none⟩ = false := frozen_of_heap h
theorem ArrV.set {w : World} {G n : Nat} {V : Nat → Int} (h : ArrV w G n V) (i : Nat) (x : Int) : ArrV (w.setCell ⟨G, i, none⟩ (.int .i64 x)) G n (upd V i x) := by
  unfold ArrV
  rw [hset_same (i := i) (.int .i64 x) h]
  congr 2
  apply Array.ext_getElem?
  intro j
  simp only [Array.getElem?_setIfInBounds, Array.getElem?_map, Array.size_map, Array.size_range, Array.getElem?_range]
  by_cases hij : i = j
  · subst hij
    by_cases hi : i < n <;> simp [hi, upd]
  · rw [if_neg hij]
    by_cases hj : j < n <;> simp [hj, upd, Ne.symm hij]
theorem ArrV.of_block {w w' : World} {G n : Nat} {V : Nat → Int} (h : ArrV w G n V) (e : w'.heap[G]? = w.heap[G]?) : ArrV w' G n V := e.trans h
theorem ArrV.ints {w : World} {G n : Nat} {V : Nat → Int} (h : ArrV w G n V) : IsInts w (rowV G n) ((List.range n).map V) := by
  refine ⟨by simp [I64], .inr (.inl ⟨G, 0, n, by simp [rowV], by simp, fun j u hu => ?_⟩)⟩
  rw [Nat.zero_add]
  refine cell_of_heap h ?_
  by_cases hj : j < n
  · simp [I64, hj] at hu ⊢
    exact hu
  · simp [I64, hj] at hu

/-- the first j values that sources give -/
def inn (V : Nat → Int) (l : List Src) (j m : Nat) : Int := if m < j then srcN V l m else 0
def innC (V : Nat → Int) (l : List Src) (j : Nat) : Array Value := #[.int .i64 (inn V l j 0), .int .i64 (inn V l j 1), .int .i64 (inn V l j 2)]
theorem innC_step (V : Nat → Int) (l : List Src) (j : Nat) (hj : j < 3) (x : Value) : ((innC V l j).setIfInBounds j x).setIfInBounds j (.int .i64 (srcN V l j)) = innC V l (j + 1) := by
  match j, hj with
  | 0, _ => simp [innC, inn]
  | 1, _ => simp [innC, inn]
  | 2, _ => simp [innC, inn]
theorem innC_step1 (V : Nat → Int) (l : List Src) (j : Nat) (hj : j < 3) : (innC V l j).setIfInBounds j (.int .i64 (srcN V l j)) = innC V l (j + 1) := by
  match j, hj with
  | 0, _ => simp [innC, inn]
  | 1, _ => simp [innC, inn]
  | 2, _ => simp [innC, inn]
theorem innC_all (V : Nat → Int) (l : List Src) : innC V l l.length = #[.int .i64 (srcN V l 0), .int .i64 (srcN V l 1), .int .i64 (srcN V l 2)] := by
  have h : ∀ m, inn V l l.length m = srcN V l m := fun m => by
    unfold inn
    split
    · rfl
    · unfold srcN; rw [List.getElem?_eq_none (by omega)]
  simp [innC, h]
theorem innC_zero (V : Nat → Int) (l : List Src) : innC V l 0 = #[.int .i64 0, .int .i64 0, .int .i64 0] := by simp [innC, inn]

def RunPost (p : List Opn) (w : World) (e : Ending) (w' : World) : Prop := ∃ G V, e = .returned (rowV G p.length) ∧ w.heap.size ≤ G ∧ ArrV w' G p.length V ∧ (∀ i, i < p.length → IsValAt p V i) ∧ (∀ i, i < p.length → Rng (V i)) ∧ Below w.heap.size w w'

set_option maxRecDepth 100000 in
set_option maxHeartbeats 4000000 in
theorem run_any (p : List Opn) (v : Value) (w : World) (hl : IsProg w v p) (hok : okProg p = true) (hr : waitL p = []) (h60 : p.length ≤ 60) : Calls Try.prog 38 #[v] w (RunPost p w) := by
  obtain ⟨bs, cq, hval⟩ := hl.1.shape
  subst hval
  obtain ⟨i0, hi, hz0, hz1, hz2⟩ := info_parts (show (Try.prog.info? 3).map (fun i => (i.zero, i.size, i.bytes)) = some (some (.int .i64 0), 1, 8) by kernel_rfl)
  have hu : Try.prog.underlying 25 = some (.slice 3) := by kernel_rfl
  have HR := Lib.hid (ready_of hok hr)
  have HL := Lib.hid hl
  have HO := Lib.hid hok
  have HC := Lib.hid (fun w1 hl => ordered_any p (.slice bs p.length cq) w1 hl (okProg_narrow hok) h60)
  clear hl hok hr
  go_enter Try.func38, Try.ntmps38
  go_wp2_with (first
    | (at_make; refine wpList_make_full _ rfl _ _ 25 rfl w.heap.size 3 i0 (.int .i64 0) 1 hu hi hz0 hz1 .i64 .i64 _ _ p.length rfl rfl rfl rfl (by rw [hz2]; omega) (by unfold maxLen; omega) (by simp) ?_; intro w1 hown hgrow)
    | (go_at_call 51; refine (HC.out w1 (HL.out.keeps (Keeps.of_below ((Below.refl w.heap.size w).grown hgrow (Nat.le_refl _) (by simp))))).mono ?_; rintro e w2 ⟨D, d, rfl, hD, hAd, hOrd, hb2⟩))
  have hA1 : Hid (ArrV w1 w.heap.size p.length (fun _ => 0)) := Lib.hid (by
    obtain ⟨_, hA⟩ := arr_of_made hown (by simp only [madeCells, Value.cells]; apply List.ext_getElem <;> simp [Nat.mod_one])
    unfold ArrV
    rw [hA]
    congr 2
    apply Array.ext <;> simp)
  have hw1 : w.heap.size < w1.heap.size := heap_lt hA1.out
  have hA2 : Hid (ArrV w2 w.heap.size p.length (fun _ => 0)) := Lib.hid (hA1.out.of_block (hb2.block _ hw1))
  have hbw : Below w.heap.size w w2 := ((Below.refl w.heap.size w).grown hgrow (Nat.le_refl _) (by simp)).trans (hb2.mono (by omega))
  have hw2 : w.heap.size < w2.heap.size := heap_lt hA2.out
  have HD := Lib.hid (And.intro hAd hOrd)
  clear hown hgrow hA1 hb2 hAd hOrd
  go_loopw [17] (fun i wr => ∃ (k : Nat) (V : Nat → Int), k ≤ p.length ∧ i = .int .i64 k ∧ Hid (ArrV wr w.heap.size p.length V) ∧ Hid (Done p d V k) ∧ Hid (∀ i, i < p.length → Rng (V i)) ∧ Fr (· = w.heap.size) w2 wr) (fun i _ => p.length - (intOf i).toNat)
  case atStart => exact ⟨0, _, by omega, rfl, hA2, Lib.hid fun j hj => by omega, Lib.hid fun i _ => ⟨by simp, by simp⟩, Fr.refl _ _⟩
  case round =>
    clear hA2
    obtain ⟨k, V, hk, rfl, HA, HDn, HV, hfr⟩ := hrel
    have hb0 : Below w.heap.size w wr := hbw.trans (hfr.below (by omega) (fun j hj => by omega))
    have hsz : w2.heap.size ≤ wr.heap.size := hfr.size
    have HAD : Hid (Arr wr D d) := Lib.hid ((hfr.block D (heap_lt HD.out.1) (by omega)).trans HD.out.1)
    by_cases hlt : k < p.length
    · have hdl := HD.out.2.lt k hlt
      have hdc : wr.cell? ⟨D, k, none⟩ = some (.int .i64 (d[k]! : Nat)) := cell_of_heap HAD.out (by simp [show k < d.size by rw [HD.out.2.size]; exact hlt])
      have hstep := Lib.hid (HDn.out.step HD.out.2 HR.out hlt)
      obtain ⟨i, hii⟩ : ∃ i, i = d[k]! := ⟨_, rfl⟩
      rw [← hii] at hdl hdc hstep
      have HII := Lib.hid hii
      clear hii
      obtain ⟨b1, off, cp1, hv, hc, hcl⟩ := Sl.at HL.out.1 (by omega)
      injection hv with hv1 _ hv3
      subst hv1 hv3
      have hkp := Keeps.of_below hb0
      obtain ⟨c0, c1, c2, c3, c4, c5⟩ := op_cells (hcl.keeps hkp) i hdl
      have ho := opn_eq hdl
      have hoo := okProg_op HO.out i hdl
      have hs := (HL.out.2 p[i] (List.getElem_mem _)).keeps hkp
      have hrd := HR.out i hdl
      rw [← ho] at c4 c5 hoo hs
      clear c0 c1 c2 c3 hcl ho
      have hsrc := hoo.src
      have hlen := hoo.len3
      have hkd := hoo.k
      clear hoo
      generalize opn p i = o at *
      obtain ⟨t, a0, a1, u, kd, oh, src⟩ := o
      simp only at *
      obtain ⟨bh, ch, hoh⟩ := hs.shape
      subst hoh
      have HSr := Lib.hid (And.intro hs (And.intro hsrc hrd))
      clear hs hsrc hrd
      have hil : (i : Int) < (p.length : Int) := by omega
      have c5x := Keeps.of_below (below_alloc wr (.cells #[.int .i64 0, .int .i64 0, .int .i64 0] 70)) _ _ c5
      go_wp2
      obtain ⟨w0, hw0⟩ : ∃ x, x = wr := ⟨wr, rfl⟩
      subst hw0
      clear c5x
      go_loopw [27] (fun vj wr => ∃ j : Nat, j ≤ src.length ∧ vj = .int .i64 j ∧ Below w0.heap.size w0 wr ∧ Hid (wr.heap[w0.heap.size]? = some (.cells (innC V src j) 70 (0, 0)))) (fun vj _ => src.length - (intOf vj).toNat)
      case atStart => exact ⟨0, by omega, rfl, below_alloc _ _, Lib.hid (by rw [innC_zero]; exact heap_alloc_new w0 _)⟩
      case round =>
        obtain ⟨j, hj, rfl, hbj, HB⟩ := hrel
        have hbsz : w0.heap.size < wr.heap.size := heap_lt HB.out
        by_cases hjl : j < src.length
        · obtain ⟨b2, of2, cp2, hv, hc2, hcl2⟩ := Sl.at HSr.out.1 (by omega)
          injection hv with hv1 _ hv3
          subst hv1 hv3
          obtain ⟨d0, d1, d2⟩ := src_cells (hcl2.keeps (Keeps.of_below hbj)) j hjl
          have hsk := HSr.out.2.1 src[j] (List.getElem_mem _)
          have hrk := HSr.out.2.2 src[j] (List.getElem_mem _)
          have hsn : srcN V src j = srcV V src[j] := by unfold srcN; rw [List.getElem?_eq_getElem hjl]
          clear hcl2
          generalize src[j] = s at *
          obtain ⟨so, sv, sh⟩ := s
          simp only at *
          have hAj : Hid (ArrV (wr.alloc (.cells #[.int .i64 so, .int .i64 sv, .int .i64 sh] 52)) w.heap.size p.length V) := Lib.hid (HA.out.of_block (by rw [heap_alloc_old _ _ (by omega), hbj.block _ (by omega)]))
          have HB1 : Hid ((wr.alloc (.cells #[.int .i64 so, .int .i64 sv, .int .i64 sh] 52)).heap[w0.heap.size]? = some (.cells (innC V src j) 70 (0, 0))) := Lib.hid (by rw [heap_alloc_old _ _ hbsz]; exact HB.out)
          have hcx : ∃ u, (wr.alloc (.cells #[.int .i64 so, .int .i64 sv, .int .i64 sh] 52)).cell? ⟨w0.heap.size, j, none⟩ = some u := by
            have h3 : j < (innC V src j).size := by simp [innC]; omega
            exact ⟨_, cell_of_heap HB1.out (Array.getElem?_eq_getElem h3)⟩
          obtain ⟨ux, hcx⟩ := hcx
          have hfx := frozen_of_heap (i := j) HB1.out
          have hji : (j : Int) < 3 := by omega
          have hbA := hbj.alloc hbj.size (.cells #[.int .i64 so, .int .i64 sv, .int .i64 sh] 52)
          by_cases hneg : so < 0
          · have hsv : srcV V ⟨so, sv, sh⟩ = sv := if_pos hneg
            have HB2 : Hid (((wr.setCell ⟨w0.heap.size, j, none⟩ (.int .i64 sv)).alloc (.cells #[.int .i64 so, .int .i64 sv, .int .i64 sh] 52)).heap[w0.heap.size]? = some (.cells (innC V src (j + 1)) 70 (0, 0))) := Lib.hid (by
              rw [heap_alloc_old _ _ (by simp [World.setCell]; omega), hset_same _ HB.out, ← innC_step1 V src j (by omega), hsn, hsv])
            have hnb : decide (0 ≤ so) = false := by simp; omega
            clear hsk hrk hsn hsv
            go_wp2
            go_roundw
            case rel => exact ⟨j + 1, by omega, by go_num, (hbj.setCell (Nat.le_refl _) _).alloc (by simp [World.setCell]; omega) _, HB2⟩
            case measure => simp [intOf]; omega
          · have h3 : 0 ≤ so ∧ so < p.length := by
              rcases hsk with ⟨h, _⟩ | h
              · omega
              · exact ⟨h.1, h.2.1⟩
            obtain ⟨h31, h32⟩ := h3
            obtain ⟨m, rfl⟩ := Int.eq_ofNat_of_zero_le h31
            have hsv : srcV V ⟨(m : Int), sv, sh⟩ = V m := (if_neg hneg).trans (by simp)
            have hx1 : ((wr.setCell ⟨w0.heap.size, j, none⟩ (.int .i64 sv)).alloc (.cells #[.int .i64 (m : Int), .int .i64 sv, .int .i64 sh] 52)).cell? ⟨w.heap.size, m, none⟩ = some (.int .i64 (V m)) := by
              have h1 : ArrV ((wr.setCell ⟨w0.heap.size, j, none⟩ (.int .i64 sv)).alloc (.cells #[.int .i64 (m : Int), .int .i64 sv, .int .i64 sh] 52)) w.heap.size p.length V := HA.out.of_block (by
                rw [heap_alloc_old _ _ (by simp [World.setCell]; omega), Below.heap_setCell _ _ _ _ (by simp; omega), hbj.block _ (by omega)])
              exact h1.cell (by omega)
            have HB2' : ((wr.setCell ⟨w0.heap.size, j, none⟩ (.int .i64 sv)).alloc (.cells #[.int .i64 (m : Int), .int .i64 sv, .int .i64 sh] 52)).heap[w0.heap.size]? = some (.cells ((innC V src j).setIfInBounds j (.int .i64 sv)) 70 (0, 0)) := by
              rw [heap_alloc_old _ _ (by simp [World.setCell]; omega), hset_same _ HB.out]
            have hcx2 : ∃ u, ((wr.setCell ⟨w0.heap.size, j, none⟩ (.int .i64 sv)).alloc (.cells #[.int .i64 (m : Int), .int .i64 sv, .int .i64 sh] 52)).cell? ⟨w0.heap.size, j, none⟩ = some u := by
              have h3 : j < ((innC V src j).setIfInBounds j (.int .i64 sv)).size := by simp [innC]; omega
              exact ⟨_, cell_of_heap HB2' (Array.getElem?_eq_getElem h3)⟩
            obtain ⟨ux2, hcx2⟩ := hcx2
            have hfx2 := frozen_of_heap (i := j) HB2'
            have HB3 : Hid ((((wr.setCell ⟨w0.heap.size, j, none⟩ (.int .i64 sv)).setCell ⟨w0.heap.size, j, none⟩ (.int .i64 (V m))).alloc (.cells #[.int .i64 (m : Int), .int .i64 sv, .int .i64 sh] 52)).heap[w0.heap.size]? = some (.cells (innC V src (j + 1)) 70 (0, 0))) := Lib.hid (by
              rw [heap_alloc_old _ _ (by simp [World.setCell]; omega), hset_same _ (hset_same _ HB.out), ← innC_step V src j (by omega) (.int .i64 sv), hsn, hsv])
            have hnb : decide ((0 : Int) ≤ (m : Int)) = true := by simp
            have hmi : (m : Int) < (p.length : Int) := h32
            clear hsk hrk hsn hsv HB2'
            go_wp2
            go_roundw
            case rel => exact ⟨j + 1, by omega, by go_num, ((hbj.setCell (Nat.le_refl _) _).setCell (Nat.le_refl _) _).alloc (by simp [World.setCell]; omega) _, HB3⟩
            case measure => simp [intOf]; omega
        · obtain rfl : j = src.length := by omega
          have HB2 := HB.out
          rw [innC_all] at HB2
          have e0 : wr.cell? ⟨w0.heap.size, 0, none⟩ = some (.int .i64 (srcN V src 0)) := cell_of_heap HB2 rfl
          have e1 : wr.cell? ⟨w0.heap.size, 1, none⟩ = some (.int .i64 (srcN V src 1)) := cell_of_heap HB2 rfl
          have e2 : wr.cell? ⟨w0.heap.size, 2, none⟩ = some (.int .i64 (srcN V src 2)) := cell_of_heap HB2 rfl
          have r0 := srcN_rng HV.out HSr.out.2.1 0
          have r1 := srcN_rng HV.out HSr.out.2.1 1
          have r2 := srcN_rng HV.out HSr.out.2.1 2
          have hAw : ArrV wr w.heap.size p.length V := HA.out.of_block (hbj.block _ (by omega))
          have hax := hAw.cell hdl
          have hfx := hAw.frozen i
          have c4w := Keeps.of_below hbj _ _ c4
          have hA3 := Lib.hid (hAw.set i (appl kd (srcN V src 0) (srcN V src 1) (srcN V src 2)))
          have hfr3 := Lib.hid ((hfr.trans (Fr.of_below hbj)).setCell (a := ⟨w.heap.size, i, none⟩) rfl (.int .i64 (appl kd (srcN V src 0) (srcN V src 1) (srcN V src 2))))
          have hV3 : Hid (∀ j, j < p.length → Rng (upd V i (appl kd (srcN V src 0) (srcN V src 1) (srcN V src 2)) j)) := Lib.hid fun j hj => by
            unfold upd
            split
            · exact appl_rng _ _ _ _
            · exact HV.out j hj
          have hrg := opVal_rng (k := kd) r0 r1 r2
          have hap : appl kd (srcN V src 0) (srcN V src 1) (srcN V src 2) = opVal kd (srcN V src 0) (srcN V src 1) (srcN V src 2) % 10007 := rfl
          rw [hap] at hA3 hfr3 hV3 hstep
          clear hap HB2 hAw
          generalize srcN V src 0 = x0 at *
          generalize srcN V src 1 = x1 at *
          generalize srcN V src 2 = x2 at *
          have h7 : kd = 1 ∨ kd = 2 ∨ kd = 3 ∨ kd = 4 ∨ kd = 5 ∨ kd = 6 ∨ kd = 7 := by omega
          clear hkd
          rcases h7 with rfl | rfl | rfl | rfl | rfl | rfl | rfl
          · have HN := fun w => needs_any 1 w
            have HD := fun w => does1 x0 x1 x2 r0 r1 r2 w
            rw [show doesV 1 = .func (.func 68) #[] #[] by simp [doesV]] at HN
            generalize opVal 1 x0 x1 x2 = x at *
            generalize need 1 = nd at *
            go_wp2_with (first | (go_at_call 56; refine (HN _).mono ?_; rintro e w5 ⟨rfl, rfl⟩) | (go_at_call 68; refine (HD _).mono ?_; rintro e w5 ⟨rfl, rfl⟩))
            go_roundw
            case rel => exact ⟨k + 1, _, by omega, by go_num, hA3, hstep, hV3, hfr3.out⟩
            case measure => simp [intOf]; omega
          · have HN := fun w => needs_any 2 w
            have HD := fun w => does2 x0 x1 x2 r0 r1 r2 w
            rw [show doesV 2 = .func (.func 69) #[] #[] by simp [doesV]] at HN
            generalize opVal 2 x0 x1 x2 = x at *
            generalize need 2 = nd at *
            go_wp2_with (first | (go_at_call 56; refine (HN _).mono ?_; rintro e w5 ⟨rfl, rfl⟩) | (go_at_call 69; refine (HD _).mono ?_; rintro e w5 ⟨rfl, rfl⟩))
            go_roundw
            case rel => exact ⟨k + 1, _, by omega, by go_num, hA3, hstep, hV3, hfr3.out⟩
            case measure => simp [intOf]; omega
          · have HN := fun w => needs_any 3 w
            have HD := fun w => does3 x0 x1 x2 r0 r1 r2 w
            rw [show doesV 3 = .func (.func 70) #[] #[] by simp [doesV]] at HN
            generalize opVal 3 x0 x1 x2 = x at *
            generalize need 3 = nd at *
            go_wp2_with (first | (go_at_call 56; refine (HN _).mono ?_; rintro e w5 ⟨rfl, rfl⟩) | (go_at_call 70; refine (HD _).mono ?_; rintro e w5 ⟨rfl, rfl⟩))
            go_roundw
            case rel => exact ⟨k + 1, _, by omega, by go_num, hA3, hstep, hV3, hfr3.out⟩
            case measure => simp [intOf]; omega
          · have HN := fun w => needs_any 4 w
            have HD := fun w => does4 x0 x1 x2 r0 r1 r2 w
            rw [show doesV 4 = .func (.func 71) #[] #[] by simp [doesV]] at HN
            generalize opVal 4 x0 x1 x2 = x at *
            generalize need 4 = nd at *
            go_wp2_with (first | (go_at_call 56; refine (HN _).mono ?_; rintro e w5 ⟨rfl, rfl⟩) | (go_at_call 71; refine (HD _).mono ?_; rintro e w5 ⟨rfl, rfl⟩))
            go_roundw
            case rel => exact ⟨k + 1, _, by omega, by go_num, hA3, hstep, hV3, hfr3.out⟩
            case measure => simp [intOf]; omega
          · have HN := fun w => needs_any 5 w
            have HD := fun w => does5 x0 x1 x2 r0 r1 r2 w
            rw [show doesV 5 = .func (.func 72) #[] #[] by simp [doesV]] at HN
            generalize opVal 5 x0 x1 x2 = x at *
            generalize need 5 = nd at *
            go_wp2_with (first | (go_at_call 56; refine (HN _).mono ?_; rintro e w5 ⟨rfl, rfl⟩) | (go_at_call 72; refine (HD _).mono ?_; rintro e w5 ⟨rfl, rfl⟩))
            go_roundw
            case rel => exact ⟨k + 1, _, by omega, by go_num, hA3, hstep, hV3, hfr3.out⟩
            case measure => simp [intOf]; omega
          · have HN := fun w => needs_any 6 w
            have HD := fun w => does6 x0 x1 x2 r0 r1 r2 w
            rw [show doesV 6 = .func (.func 73) #[] #[] by simp [doesV]] at HN
            generalize opVal 6 x0 x1 x2 = x at *
            generalize need 6 = nd at *
            go_wp2_with (first | (go_at_call 56; refine (HN _).mono ?_; rintro e w5 ⟨rfl, rfl⟩) | (go_at_call 73; refine (HD _).mono ?_; rintro e w5 ⟨rfl, rfl⟩))
            go_roundw
            case rel => exact ⟨k + 1, _, by omega, by go_num, hA3, hstep, hV3, hfr3.out⟩
            case measure => simp [intOf]; omega
          · have HN := fun w => needs_any 7 w
            have HD := fun w => does7 x0 x1 x2 r0 r1 r2 w
            rw [show doesV 7 = .func (.func 74) #[] #[] by simp [doesV]] at HN
            generalize opVal 7 x0 x1 x2 = x at *
            generalize need 7 = nd at *
            go_wp2_with (first | (go_at_call 56; refine (HN _).mono ?_; rintro e w5 ⟨rfl, rfl⟩) | (go_at_call 74; refine (HD _).mono ?_; rintro e w5 ⟨rfl, rfl⟩))
            go_roundw
            case rel => exact ⟨k + 1, _, by omega, by go_num, hA3, hstep, hV3, hfr3.out⟩
            case measure => simp [intOf]; omega
    · obtain rfl : k = p.length := by omega
      go_wp2
      go_ret
      exact ⟨w.heap.size, V, rfl, Nat.le_refl _, HA.out, HDn.out.all HD.out.2, HV.out, hb0⟩
end Go.Proofs.Ytmjdmpapickgkaa

namespace Go.Proofs.Ytmjdmpapickgkaa
open Go.RowKit Go.Kk

theorem list1 {l : List Int} (h : l.length = 1) : ∃ a, l = [a] := by
  match l, h with
  | [a], _ => exact ⟨a, rfl⟩
theorem list2 {l : List Int} (h : l.length = 2) : ∃ a b, l = [a, b] := by
  match l, h with
  | [a, b], _ => exact ⟨a, b, rfl⟩
theorem list3 {l : List Int} (h : l.length = 3) : ∃ a b c, l = [a, b, c] := by
  match l, h with
  | [a, b, c], _ => exact ⟨a, b, c, rfl⟩

set_option maxHeartbeats 400000 in
theorem Apply1 (l : List Int) (v : Value) (w : World) (hl : IsInts w v l) (hlen : l.length = 1) (hr : ∀ x ∈ l, Rng x) : Calls Try.prog 67 #[.int .i64 1, v] w fun e w' => e = .returned (.int .i64 (appl 1 (vat l 0) (vat l 1) (vat l 2))) ∧ Below w.heap.size w w' := by
  obtain ⟨x0, rfl⟩ := list1 hlen
  obtain ⟨b, off, cap, rfl, hcap, hc⟩ := Sl.at hl (by simp)
  have c0 := hc 0 (.int .i64 x0) rfl
  have r0 := hr x0 (by simp)
  simp only [Nat.add_zero] at c0
  unfold Rng at r0
  have hv : appl 1 (vat [x0] 0) (vat [x0] 1) (vat [x0] 2) = (x0) % 10007 := by simp [vat, appl, opVal]
  rw [hv]
  clear hv hl hr hc hlen
  go_enter Try.func67, Try.ntmps67
  go_wp2
  go_ret
  exact ⟨rfl, Below.refl _ _⟩

set_option maxHeartbeats 400000 in
theorem Apply2 (l : List Int) (v : Value) (w : World) (hl : IsInts w v l) (hlen : l.length = 2) (hr : ∀ x ∈ l, Rng x) : Calls Try.prog 67 #[.int .i64 2, v] w fun e w' => e = .returned (.int .i64 (appl 2 (vat l 0) (vat l 1) (vat l 2))) ∧ Below w.heap.size w w' := by
  obtain ⟨x0, x1, rfl⟩ := list2 hlen
  obtain ⟨b, off, cap, rfl, hcap, hc⟩ := Sl.at hl (by simp)
  have c0 := hc 0 (.int .i64 x0) rfl
  have r0 := hr x0 (by simp)
  have c1 := hc 1 (.int .i64 x1) rfl
  have r1 := hr x1 (by simp)
  simp only [Nat.add_zero] at c0
  have m1 := mul_rng r0 r1
  unfold Rng at r0 r1
  have hv : appl 2 (vat [x0, x1] 0) (vat [x0, x1] 1) (vat [x0, x1] 2) = (x0 + x1) % 10007 := by simp [vat, appl, opVal]
  rw [hv]
  clear hv hl hr hc hlen
  have y1 : IntKind.i64.wrap (x0 + x1) = x0 + x1 := IntWalk.i64_in _ (by omega)
  have y3 : 0 ≤ x0 + x1 := by omega
  go_enter Try.func67, Try.ntmps67
  go_wp2
  go_quiet (fail)
  clear y1 y3
  go_wp2
  go_ret
  exact ⟨rfl, below_drewN' (Below.refl _ _) _⟩

set_option maxHeartbeats 400000 in
theorem Apply3 (l : List Int) (v : Value) (w : World) (hl : IsInts w v l) (hlen : l.length = 2) (hr : ∀ x ∈ l, Rng x) : Calls Try.prog 67 #[.int .i64 3, v] w fun e w' => e = .returned (.int .i64 (appl 3 (vat l 0) (vat l 1) (vat l 2))) ∧ Below w.heap.size w w' := by
  obtain ⟨x0, x1, rfl⟩ := list2 hlen
  obtain ⟨b, off, cap, rfl, hcap, hc⟩ := Sl.at hl (by simp)
  have c0 := hc 0 (.int .i64 x0) rfl
  have r0 := hr x0 (by simp)
  have c1 := hc 1 (.int .i64 x1) rfl
  have r1 := hr x1 (by simp)
  simp only [Nat.add_zero] at c0
  have m1 := mul_rng r0 r1
  unfold Rng at r0 r1
  have hv : appl 3 (vat [x0, x1] 0) (vat [x0, x1] 1) (vat [x0, x1] 2) = (x0 - x1 + 10007) % 10007 := by simp [vat, appl, opVal]
  rw [hv]
  clear hv hl hr hc hlen
  have y1 : IntKind.i64.wrap (x0 - x1) = x0 - x1 := IntWalk.i64_in _ (by omega)
  have y2 : IntKind.i64.wrap (x0 - x1 + 10007) = x0 - x1 + 10007 := IntWalk.i64_in _ (by omega)
  have y3 : 0 ≤ x0 - x1 + 10007 := by omega
  go_enter Try.func67, Try.ntmps67
  go_wp2
  go_quiet (fail)
  clear y1 y2 y3
  go_wp2
  go_ret
  exact ⟨rfl, below_drewN' (Below.refl _ _) _⟩

set_option maxHeartbeats 400000 in
theorem Apply4 (l : List Int) (v : Value) (w : World) (hl : IsInts w v l) (hlen : l.length = 2) (hr : ∀ x ∈ l, Rng x) : Calls Try.prog 67 #[.int .i64 4, v] w fun e w' => e = .returned (.int .i64 (appl 4 (vat l 0) (vat l 1) (vat l 2))) ∧ Below w.heap.size w w' := by
  obtain ⟨x0, x1, rfl⟩ := list2 hlen
  obtain ⟨b, off, cap, rfl, hcap, hc⟩ := Sl.at hl (by simp)
  have c0 := hc 0 (.int .i64 x0) rfl
  have r0 := hr x0 (by simp)
  have c1 := hc 1 (.int .i64 x1) rfl
  have r1 := hr x1 (by simp)
  simp only [Nat.add_zero] at c0
  have m1 := mul_rng r0 r1
  unfold Rng at r0 r1
  have hv : appl 4 (vat [x0, x1] 0) (vat [x0, x1] 1) (vat [x0, x1] 2) = (x0 * x1) % 10007 := by simp [vat, appl, opVal]
  rw [hv]
  clear hv hl hr hc hlen
  have y1 : IntKind.i64.wrap (x0 * x1) = x0 * x1 := IntWalk.i64_in _ (by omega)
  go_enter Try.func67, Try.ntmps67
  go_wp2
  go_quiet (fail)
  clear y1
  go_wp2
  go_ret
  exact ⟨rfl, below_drewN' (Below.refl _ _) _⟩

set_option maxHeartbeats 400000 in
theorem Apply5 (l : List Int) (v : Value) (w : World) (hl : IsInts w v l) (hlen : l.length = 3) (hr : ∀ x ∈ l, Rng x) : Calls Try.prog 67 #[.int .i64 5, v] w fun e w' => e = .returned (.int .i64 (appl 5 (vat l 0) (vat l 1) (vat l 2))) ∧ Below w.heap.size w w' := by
  obtain ⟨x0, x1, x2, rfl⟩ := list3 hlen
  obtain ⟨b, off, cap, rfl, hcap, hc⟩ := Sl.at hl (by simp)
  have c0 := hc 0 (.int .i64 x0) rfl
  have r0 := hr x0 (by simp)
  have c1 := hc 1 (.int .i64 x1) rfl
  have r1 := hr x1 (by simp)
  have c2 := hc 2 (.int .i64 x2) rfl
  have r2 := hr x2 (by simp)
  simp only [Nat.add_zero] at c0
  have m1 := mul_rng r0 r1
  have m2 := mul_rng r1 r2
  unfold Rng at r0 r1 r2
  have hv : appl 5 (vat [x0, x1, x2] 0) (vat [x0, x1, x2] 1) (vat [x0, x1, x2] 2) = (x0 + x1 * x2) % 10007 := by simp [vat, appl, opVal]
  rw [hv]
  clear hv hl hr hc hlen
  have y1 : IntKind.i64.wrap (x1 * x2) = x1 * x2 := IntWalk.i64_in _ (by omega)
  have y2 : IntKind.i64.wrap (x0 + x1 * x2) = x0 + x1 * x2 := IntWalk.i64_in _ (by omega)
  have y3 : 0 ≤ x0 + x1 * x2 := by omega
  go_enter Try.func67, Try.ntmps67
  go_wp2
  go_quiet (fail)
  clear y1 y2 y3
  go_wp2
  go_ret
  exact ⟨rfl, below_drewN' (Below.refl _ _) _⟩

set_option maxHeartbeats 400000 in
theorem Apply6 (l : List Int) (v : Value) (w : World) (hl : IsInts w v l) (hlen : l.length = 2) (hr : ∀ x ∈ l, Rng x) : Calls Try.prog 67 #[.int .i64 6, v] w fun e w' => e = .returned (.int .i64 (appl 6 (vat l 0) (vat l 1) (vat l 2))) ∧ Below w.heap.size w w' := by
  obtain ⟨x0, x1, rfl⟩ := list2 hlen
  obtain ⟨b, off, cap, rfl, hcap, hc⟩ := Sl.at hl (by simp)
  have c0 := hc 0 (.int .i64 x0) rfl
  have r0 := hr x0 (by simp)
  have c1 := hc 1 (.int .i64 x1) rfl
  have r1 := hr x1 (by simp)
  simp only [Nat.add_zero] at c0
  have m1 := mul_rng r0 r1
  unfold Rng at r0 r1
  have hv : appl 6 (vat [x0, x1] 0) (vat [x0, x1] 1) (vat [x0, x1] 2) = (max x0 x1) % 10007 := by simp [vat, appl, opVal]
  rw [hv]
  clear hv hl hr hc hlen
  go_enter Try.func67, Try.ntmps67
  go_wp2
  go_quiet (fail)
  go_wp2
  go_ret
  exact ⟨rfl, below_drewN' (Below.refl _ _) _⟩

set_option maxHeartbeats 400000 in
theorem Apply7 (l : List Int) (v : Value) (w : World) (hl : IsInts w v l) (hlen : l.length = 2) (hr : ∀ x ∈ l, Rng x) : Calls Try.prog 67 #[.int .i64 7, v] w fun e w' => e = .returned (.int .i64 (appl 7 (vat l 0) (vat l 1) (vat l 2))) ∧ Below w.heap.size w w' := by
  obtain ⟨x0, x1, rfl⟩ := list2 hlen
  obtain ⟨b, off, cap, rfl, hcap, hc⟩ := Sl.at hl (by simp)
  have c0 := hc 0 (.int .i64 x0) rfl
  have r0 := hr x0 (by simp)
  have c1 := hc 1 (.int .i64 x1) rfl
  have r1 := hr x1 (by simp)
  simp only [Nat.add_zero] at c0
  have m1 := mul_rng r0 r1
  unfold Rng at r0 r1
  have hv : appl 7 (vat [x0, x1] 0) (vat [x0, x1] 1) (vat [x0, x1] 2) = (min x0 x1) % 10007 := by simp [vat, appl, opVal]
  rw [hv]
  clear hv hl hr hc hlen
  go_enter Try.func67, Try.ntmps67
  go_wp2
  go_quiet (fail)
  go_wp2
  go_ret
  exact ⟨rfl, below_drewN' (Below.refl _ _) _⟩

theorem Apply_any (k : Int) (l : List Int) (v : Value) (w : World) (hl : IsInts w v l) (hk : 1 ≤ k ∧ k ≤ 7) (hlen : (l.length : Int) = need k) (hr : ∀ x ∈ l, Rng x) : Calls Try.prog 67 #[.int .i64 k, v] w fun e w' => e = .returned (.int .i64 (appl k (vat l 0) (vat l 1) (vat l 2))) ∧ Below w.heap.size w w' := by
  have h7 : k = 1 ∨ k = 2 ∨ k = 3 ∨ k = 4 ∨ k = 5 ∨ k = 6 ∨ k = 7 := by omega
  rcases h7 with rfl | rfl | rfl | rfl | rfl | rfl | rfl
  · exact Apply1 l v w hl (by simp [need] at hlen; omega) hr
  · exact Apply2 l v w hl (by simp [need] at hlen; omega) hr
  · exact Apply3 l v w hl (by simp [need] at hlen; omega) hr
  · exact Apply4 l v w hl (by simp [need] at hlen; omega) hr
  · exact Apply5 l v w hl (by simp [need] at hlen; omega) hr
  · exact Apply6 l v w hl (by simp [need] at hlen; omega) hr
  · exact Apply7 l v w hl (by simp [need] at hlen; omega) hr
end Go.Proofs.Ytmjdmpapickgkaa
