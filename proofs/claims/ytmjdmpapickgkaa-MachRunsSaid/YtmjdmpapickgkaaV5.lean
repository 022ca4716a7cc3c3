import Derived.Test.YtmjdmpapickgkaaV4
import Derived.Test.YtmjdmpapickgkaaM4
namespace Go.Proofs.Ytmjdmpapickgkaa
open Go.RowKit Go.Kk

def ErrPost (er : Int) (w : World) (e : Ending) (w' : World) : Prop := e = .returned (.tuple #[.slice none 0 0, .int .i64 er]) ∧ Below w.heap.size w w'
def ValsPost (p : List Opn) (w : World) (e : Ending) (w' : World) : Prop :=
  ∃ G V, e = .returned (.tuple #[rowV G p.length, .int .i64 0]) ∧ w.heap.size ≤ G ∧ ArrV w' G p.length V ∧ (∀ i, i < p.length → IsValAt p V i) ∧ (∀ i, i < p.length → Rng (V i)) ∧ Below w.heap.size w w'

theorem meetV_some {p : List Opn} (h : meets p ≠ none) : ∃ a b : Int, meetV p = .tuple #[.int .i64 a, .int .i64 b, .bool true] := by
  unfold meetV
  cases hm : meets p with
  | none => exact absurd hm h
  | some i => exact ⟨_, _, rfl⟩
theorem meetV_none {p : List Opn} (h : meets p = none) : meetV p = .tuple #[.int .i64 0, .int .i64 0, .bool false] := by unfold meetV; rw [h]

set_option maxHeartbeats 400000 in
theorem refrun_bad (p : List Opn) (v : Value) (w : World) (hl : IsProg w v p) (hlen : Narrow p) (hok : okProg p = false) : Calls Try.prog 35 #[v] w (ErrPost 80 w) := by
  have HV := Lib.hid (refValid_any p v w hl hlen)
  rw [hok] at HV
  clear hl hok
  go_enter Try.func35, Try.ntmps35
  go_wp2_with (first | (go_at_call 17; refine HV.out.mono ?_; rintro e w1 ⟨rfl, h1⟩))
  go_ret2
  exact ⟨rfl, h1⟩

set_option maxHeartbeats 400000 in
theorem refrun_busy (p : List Opn) (v : Value) (w : World) (hl : IsProg w v p) (hok : okProg p = true) (hm : meets p ≠ none) : Calls Try.prog 35 #[v] w (ErrPost 81 w) := by
  have HV := Lib.hid (refValid_any p v w hl (okProg_narrow hok))
  rw [hok] at HV
  have HM := Lib.hid (fun w1 (hb : Below w.heap.size w w1) => refMeet_any p v w1 (hl.keeps (Keeps.of_below hb)) hok)
  obtain ⟨a, b, hab⟩ := meetV_some hm
  rw [hab] at HM
  clear hl hok hm hab
  go_enter Try.func35, Try.ntmps35
  go_wp2_with (first
    | (go_at_call 17; refine HV.out.mono ?_; rintro e w1 ⟨rfl, h1⟩)
    | (go_at_call 41; refine (HM.out _ h1).mono ?_; rintro e w2 ⟨rfl, h2⟩))
  go_ret2
  exact ⟨rfl, h1.trans (h2.mono h1.size)⟩

set_option maxHeartbeats 400000 in
theorem refrun_wait (p : List Opn) (v : Value) (w : World) (hl : IsProg w v p) (hok : okProg p = true) (hm : meets p = none) (hw : waitL p ≠ []) : Calls Try.prog 35 #[v] w (ErrPost 82 w) := by
  have HV := Lib.hid (refValid_any p v w hl (okProg_narrow hok))
  rw [hok] at HV
  have HM := Lib.hid (fun w1 (hb : Below w.heap.size w w1) => refMeet_any p v w1 (hl.keeps (Keeps.of_below hb)) hok)
  rw [meetV_none hm] at HM
  have HW := Lib.hid (fun w1 (hb : Below w.heap.size w w1) => refwaits_any p v w1 (hl.keeps (Keeps.of_below hb)) hok)
  have hpos : 0 < (ints (waitL p)).length := by simp only [ints, List.length_map]; exact List.length_pos_iff.2 hw
  have hle : (ints (waitL p)).length ≤ 4000 := by have h1 : (waitL p).length ≤ p.length := filter_len (fun i => waitsB (timeOf p) (opn p i)) p.length; have := okProg_len hok; simp only [ints, List.length_map]; omega
  clear hl hok hm hw
  go_enter Try.func35, Try.ntmps35
  go_wp2_with (first
    | (go_at_call 17; refine HV.out.mono ?_; rintro e w1 ⟨rfl, h1⟩)
    | (go_at_call 41; refine (HM.out _ h1).mono ?_; rintro e w2 ⟨rfl, h2⟩; have h2' := h1.trans (h2.mono h1.size))
    | (go_at_call 43; refine (HW.out _ h2').mono ?_; rintro e w3 ⟨v', rfl, hv, h3⟩; obtain ⟨bv, cv, rfl⟩ := hv.shape))
  go_ret2
  exact ⟨rfl, h2'.trans (h3.mono h2'.size)⟩

set_option maxRecDepth 100000 in
set_option maxHeartbeats 2000000 in
theorem refrun_ok (p : List Opn) (v : Value) (w : World) (hl : IsProg w v p) (hok : okProg p = true) (hm : meets p = none) (hw : waitL p = []) (h60 : p.length ≤ 60) : Calls Try.prog 35 #[v] w (ValsPost p w) := by
  obtain ⟨bs, cq, hval⟩ := hl.1.shape
  subst hval
  obtain ⟨i0, hi, hz0, hz1, hz2⟩ := info_parts (show (Try.prog.info? 3).map (fun i => (i.zero, i.size, i.bytes)) = some (some (.int .i64 0), 1, 8) by kernel_rfl)
  have hu : Try.prog.underlying 25 = some (.slice 3) := by kernel_rfl
  have HV := Lib.hid (refValid_any p _ w hl (okProg_narrow hok))
  rw [hok] at HV
  have HM := Lib.hid (fun w1 (hb : Below w.heap.size w w1) => refMeet_any p _ w1 (hl.keeps (Keeps.of_below hb)) hok)
  rw [meetV_none hm] at HM
  have HW := Lib.hid (fun w1 (hb : Below w.heap.size w w1) => refwaits_any p _ w1 (hl.keeps (Keeps.of_below hb)) hok)
  have hwl : (ints (waitL p)).length = 0 := by rw [hw]; rfl
  have HR := Lib.hid (ready_of hok hw)
  have HL := Lib.hid hl
  have HO := Lib.hid hok
  clear hl hok hm hw
  go_enter Try.func35, Try.ntmps35
  go_wp2_with (first
    | (go_at_call 17; refine HV.out.mono ?_; rintro e w1 ⟨rfl, h1⟩)
    | (go_at_call 41; refine (HM.out _ h1).mono ?_; rintro e w2 ⟨rfl, h2⟩; have h2' := h1.trans (h2.mono h1.size))
    | (go_at_call 43; refine (HW.out _ h2').mono ?_; rintro e w3 ⟨v', rfl, hv, h3⟩; obtain ⟨bv, cv, rfl⟩ := hv.shape; have h3' := h2'.trans (h3.mono h2'.size); rw [hwl])
    | (at_make; refine wpList_make_full _ rfl _ _ 25 rfl w3.heap.size 3 i0 (.int .i64 0) 1 hu hi hz0 hz1 .i64 .i64 _ _ p.length rfl rfl rfl rfl (by rw [hz2]; omega) (by unfold maxLen; omega) (by simp) ?_; intro w4 hown hgrow))
  have hA4 : Hid (ArrV w4 w3.heap.size p.length (fun _ => 0)) := Lib.hid (by
    obtain ⟨_, hA⟩ := arr_of_made hown (by simp only [madeCells, Value.cells]; apply List.ext_getElem <;> simp [Nat.mod_one])
    unfold ArrV
    rw [hA]
    congr 2
    apply Array.ext <;> simp)
  have hb4 : Below w.heap.size w w4 := h3'.grown hgrow h3'.size (by simp)
  have hs3 := h3'.size
  have hw34 : w3.heap.size < w4.heap.size := heap_lt hA4.out
  clear hown hgrow h1 h2 h2' h3 h3' hwl hv
  generalize w3.heap.size = G at *
  go_loopw [8] (fun vi wr => ∃ k : Nat, k ≤ p.length ∧ vi = .int .i64 k ∧ Hid (ArrV wr G p.length (fun i => if i < k then -1 else 0)) ∧ Fr (· = G) w4 wr) (fun vi _ => p.length - (intOf vi).toNat)
  case atStart => exact ⟨0, by omega, rfl, Lib.hid (by simpa using hA4.out), Fr.refl _ _⟩
  case round =>
    clear hA4
    obtain ⟨k, hk, rfl, HA, hfr⟩ := hrel
    by_cases hlt : k < p.length
    · have c := HA.out.cell hlt
      have f := HA.out.frozen k
      have HA2 : Hid (ArrV (wr.setCell ⟨G, k, none⟩ (.int .i64 (-1))) G p.length (fun i => if i < k + 1 then -1 else 0)) := Lib.hid (by
        have h1 := HA.out.set k (-1)
        have h2 : upd (fun i => if i < k then (-1 : Int) else 0) k (-1) = fun i => if i < k + 1 then -1 else 0 := by
          funext j
          unfold upd
          by_cases e : j = k
          · subst e; simp
          · rw [if_neg e]; dsimp only; by_cases h : j < k
            · rw [if_pos h, if_pos (by omega)]
            · rw [if_neg h, if_neg (by omega)]
        rwa [h2] at h1)
      have hfr2 := hfr.setCell (a := ⟨G, k, none⟩) rfl (.int .i64 (-1))
      simp only [Nat.lt_irrefl, if_false] at c
      go_wp2
      go_roundw
      case rel => exact ⟨k + 1, by omega, by go_num, HA2, hfr2⟩
      case measure => simp [intOf]; omega
    · obtain rfl : k = p.length := by omega
      have HA2 : Hid (∃ M, ArrV wr G p.length M ∧ Cl p M) := Lib.hid ⟨fun i => if i < p.length then -1 else 0, HA.out, fun j hj => .inl (if_pos hj)⟩
      clear HA
      go_wp2
      obtain ⟨w5, hw5⟩ : ∃ x, x = wr := ⟨wr, rfl⟩
      subst hw5
      go_loopw [9] (fun vi wr => ∃ (k : Nat) (M : Nat → Int), k ≤ p.length ∧ vi = .int .i64 k ∧ Hid (ArrV wr G p.length M) ∧ Hid (Cl p M) ∧ Hid (∀ j, j < k → Rng (M j)) ∧ Fr (· = G) w4 wr) (fun vi _ => p.length - (intOf vi).toNat)
      case atStart =>
        obtain ⟨M, h1, h2⟩ := HA2.out
        exact ⟨0, M, by omega, rfl, Lib.hid h1, Lib.hid h2, Lib.hid fun j hj => by omega, hfr⟩
      case round =>
        clear HA2 hfr
        obtain ⟨k, M, hk, rfl, HA, HC, HR2, hfr⟩ := hrel
        by_cases hlt : k < p.length
        · have hcall := Lib.hid (value_any p (.slice bs p.length cq) G HO.out HR.out _ k wr M hlt (Nat.lt_succ_self _) HA.out HC.out ((PX.of HL.out hb4 hs3).trans hfr))
          unfold ValPost at hcall
          go_wp2_with (go_at_call 55; refine hcall.out.mono ?_; rintro e w6 ⟨M6, rfl, hr6, hC6, hE6, hA6, hf6⟩; generalize hz : M6 k = z6 at *)
          go_roundw
          case rel => exact ⟨k + 1, M6, by omega, by go_num, Lib.hid hA6, Lib.hid hC6, Lib.hid fun j hj => by
            by_cases e : j = k
            · subst e; rw [hz]; exact hr6
            · exact hE6.rng (HR2.out j (by omega)), hfr.trans hf6⟩
          case measure => simp [intOf]; omega
        · obtain rfl : k = p.length := by omega
          go_wp2
          go_ret2
          refine ⟨G, M, rfl, hs3, HA.out, fun i hi => ?_, HR2.out, hb4.trans (hfr.below hb4.size (fun k hk => by omega))⟩
          rcases HC.out i hi with h | h
          · exact absurd h (HR2.out i hi).ne
          · exact h.2.1
end Go.Proofs.Ytmjdmpapickgkaa
