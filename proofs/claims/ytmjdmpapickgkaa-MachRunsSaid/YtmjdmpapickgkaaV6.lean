import Derived.Test.YtmjdmpapickgkaaV5
import Derived.Test.YtmjdmpapickgkaaM3
namespace Go.Proofs.Ytmjdmpapickgkaa
open Go.RowKit Go.Kk

open Classical in
/-- the values of a program -/
noncomputable def theV (p : List Opn) : Nat → Int := if h : ∃ V : Nat → Int, ∀ i, i < p.length → IsValAt p V i ∧ Rng (V i) then Classical.choose h else fun _ => 0
theorem theV_eq {p : List Opn} (hok : okProg p = true) (hw : waitL p = []) {V : Nat → Int} (h1 : ∀ i, i < p.length → IsValAt p V i) (h2 : ∀ i, i < p.length → Rng (V i)) : ∀ i, i < p.length → V i = theV p i := by
  have hex : ∃ V : Nat → Int, ∀ i, i < p.length → IsValAt p V i ∧ Rng (V i) := ⟨V, fun i hi => ⟨h1 i hi, h2 i hi⟩⟩
  have hs := Classical.choose_spec hex
  unfold theV
  rw [dif_pos hex]
  exact val_unique hok (ready_of hok hw) h1 (fun i hi => (hs i hi).1)
theorem theV_spec {p : List Opn} {V : Nat → Int} (h1 : ∀ i, i < p.length → IsValAt p V i) (h2 : ∀ i, i < p.length → Rng (V i)) : ∀ i, i < p.length → IsValAt p (theV p) i ∧ Rng (theV p i) := by
  have hex : ∃ V : Nat → Int, ∀ i, i < p.length → IsValAt p V i ∧ Rng (V i) := ⟨V, fun i hi => ⟨h1 i hi, h2 i hi⟩⟩
  have hs := Classical.choose_spec hex
  unfold theV
  rw [dif_pos hex]
  exact hs
noncomputable def untilV (p : List Opn) (time : Int) (i : Nat) : Int := if time < (opn p i).time then -1 else theV p i
theorem ArrV.congr {w : World} {G n : Nat} {V V' : Nat → Int} (h : ArrV w G n V) (e : ∀ i, i < n → V i = V' i) : ArrV w G n V' := by
  unfold ArrV at *
  rw [h]
  congr 2
  apply Array.ext
  · simp
  · intro i h1 h2
    simp only [Array.getElem_map, Array.getElem_range]
    rw [e i (by simpa using h1)]
theorem ArrV.alloc' {w : World} {G n : Nat} {V : Nat → Int} (h : ArrV w G n V) (o : Obj) : ArrV (w.alloc o) G n V := h.of_block (heap_alloc_old _ _ (heap_lt h))
/-- what runs to its end -/
structure Runs (p : List Opn) : Prop where
  ok : okProg p = true
  free : meets p = none
  ready : waitL p = []

/-- the values until a time, in a row of its own; the program has values -/
def UntilPost (p : List Opn) (time : Int) (w : World) (e : Ending) (w' : World) : Prop :=
  ∃ G, e = .returned (.tuple #[rowV G p.length, .int .i64 0]) ∧ w.heap.size ≤ G ∧ ArrV w' G p.length (untilV p time) ∧ (∀ i, i < p.length → IsValAt p (theV p) i ∧ Rng (theV p i)) ∧ Below w.heap.size w w'

set_option maxHeartbeats 400000 in
theorem until_bad (p : List Opn) (v : Value) (time : Int) (w : World) (hl : IsProg w v p) (hlen : Narrow p) (hok : okProg p = false) : Calls Try.prog 14 #[v, .int .i64 time] w (ErrPost 80 w) := by
  have HV := Lib.hid (valid_any p v w hl hlen)
  rw [hok] at HV
  clear hl hok
  go_enter Try.func14, Try.ntmps14
  go_wp2_with (first | (go_at_call 22; refine HV.out.mono ?_; rintro e w1 ⟨rfl, h1⟩))
  go_ret2
  exact ⟨rfl, h1⟩

set_option maxHeartbeats 400000 in
theorem until_busy (p : List Opn) (v : Value) (time : Int) (w : World) (hl : IsProg w v p) (hok : okProg p = true) (hm : meets p ≠ none) : Calls Try.prog 14 #[v, .int .i64 time] w (ErrPost 81 w) := by
  have HV := Lib.hid (valid_any p v w hl (okProg_narrow hok))
  rw [hok] at HV
  have HM := Lib.hid (fun w1 (hb : Below w.heap.size w w1) => meet_any p v w1 (hl.keeps (Keeps.of_below hb)) hok)
  obtain ⟨a, b, hab⟩ := meetV_some hm
  rw [hab] at HM
  clear hl hok hm hab
  go_enter Try.func14, Try.ntmps14
  go_wp2_with (first
    | (go_at_call 22; refine HV.out.mono ?_; rintro e w1 ⟨rfl, h1⟩)
    | (go_at_call 36; refine (HM.out _ h1).mono ?_; rintro e w2 ⟨rfl, h2⟩))
  go_ret2
  exact ⟨rfl, h1.trans (h2.mono h1.size)⟩

set_option maxHeartbeats 400000 in
theorem until_wait (p : List Opn) (v : Value) (time : Int) (w : World) (hl : IsProg w v p) (hok : okProg p = true) (hm : meets p = none) (hw : waitL p ≠ []) : Calls Try.prog 14 #[v, .int .i64 time] w (ErrPost 82 w) := by
  have HV := Lib.hid (valid_any p v w hl (okProg_narrow hok))
  rw [hok] at HV
  have HM := Lib.hid (fun w1 (hb : Below w.heap.size w w1) => meet_any p v w1 (hl.keeps (Keeps.of_below hb)) hok)
  rw [meetV_none hm] at HM
  have HW := Lib.hid (fun w1 (hb : Below w.heap.size w w1) => ready_any p v w1 (hl.keeps (Keeps.of_below hb)) (okProg_narrow hok))
  have hre : readyE p = 82 := by unfold readyE; rw [if_pos hok, if_neg (fun h => hw (List.eq_nil_of_length_eq_zero h))]
  rw [hre] at HW
  clear hl hok hm hw hre
  go_enter Try.func14, Try.ntmps14
  go_wp2_with (first
    | (go_at_call 22; refine HV.out.mono ?_; rintro e w1 ⟨rfl, h1⟩)
    | (go_at_call 36; refine (HM.out _ h1).mono ?_; rintro e w2 ⟨rfl, h2⟩; have h2' := h1.trans (h2.mono h1.size))
    | (go_at_call 37; refine (HW.out _ h2').mono ?_; rintro e w3 ⟨rfl, h3⟩))
  go_ret2
  exact ⟨rfl, h2'.trans (h3.mono h2'.size)⟩

/-- the first k cells as of a time -/
theorem cut_step (p : List Opn) (time : Int) (V : Nat → Int) (k : Nat) (h : time < (opn p k).time) : upd (fun i => if i < k ∧ time < (opn p i).time then -1 else V i) k (-1) = fun i => if i < k + 1 ∧ time < (opn p i).time then -1 else V i := by
  funext j
  unfold upd
  by_cases e : j = k
  · subst e; simp [h]
  · rw [if_neg e]
    by_cases h1 : j < k
    · simp [h1, show j < k + 1 by omega]
    · simp [h1, show ¬ j < k + 1 by omega]
theorem cut_skip (p : List Opn) (time : Int) (V : Nat → Int) (k : Nat) (h : ¬ time < (opn p k).time) : (fun i => if i < k ∧ time < (opn p i).time then -1 else V i) = fun i => if i < k + 1 ∧ time < (opn p i).time then -1 else V i := by
  funext j
  by_cases e : j = k
  · subst e; simp [h]
  · by_cases h1 : j < k
    · simp [h1, show j < k + 1 by omega]
    · simp [h1, show ¬ j < k + 1 by omega]

set_option maxRecDepth 100000 in
set_option maxHeartbeats 2000000 in
theorem until_ok (p : List Opn) (v : Value) (time : Int) (w : World) (hl : IsProg w v p) (hp : Runs p) (h60 : p.length ≤ 60) : Calls Try.prog 14 #[v, .int .i64 time] w (UntilPost p time w) := by
  obtain ⟨bs, cq, hval⟩ := hl.1.shape
  subst hval
  have HV := Lib.hid (valid_any p _ w hl (okProg_narrow hp.ok))
  rw [hp.ok] at HV
  have HM := Lib.hid (fun w1 (hb : Below w.heap.size w w1) => meet_any p _ w1 (hl.keeps (Keeps.of_below hb)) hp.ok)
  rw [meetV_none hp.free] at HM
  have HW := Lib.hid (fun w1 (hb : Below w.heap.size w w1) => ready_any p _ w1 (hl.keeps (Keeps.of_below hb)) (okProg_narrow hp.ok))
  have hre : readyE p = 0 := by unfold readyE; rw [if_pos hp.ok, hp.ready]; rfl
  rw [hre] at HW
  have HR := Lib.hid (fun w1 (hb : Below w.heap.size w w1) => run_any p _ w1 (hl.keeps (Keeps.of_below hb)) hp.ok hp.ready h60)
  have HL := Lib.hid hl
  have HP := Lib.hid hp
  clear hl hp hre
  unfold RunPost at HR
  go_enter Try.func14, Try.ntmps14
  go_wp2_with (first
    | (go_at_call 22; refine HV.out.mono ?_; rintro e w1 ⟨rfl, h1⟩)
    | (go_at_call 36; refine (HM.out _ h1).mono ?_; rintro e w2 ⟨rfl, h2⟩; have h2' := h1.trans (h2.mono h1.size))
    | (go_at_call 37; refine (HW.out _ h2').mono ?_; rintro e w3 ⟨rfl, h3⟩; have h3' := h2'.trans (h3.mono h2'.size))
    | (go_at_call 38; refine (HR.out _ h3').mono ?_; rintro e w4 ⟨G, V, rfl, hG, hA4, hIV, hRg, h4⟩; have h4' := h3'.trans (h4.mono h3'.size)))
  have hs3 := h3'.size
  have HZ := Lib.hid (And.intro hIV hRg)
  have HA4 := Lib.hid hA4
  clear h1 h2 h2' h3 h3' h4 hIV hRg hA4
  go_loopw [32] (fun vi wr => ∃ k : Nat, k ≤ p.length ∧ vi = .int .i64 k ∧ Hid (ArrV wr G p.length (fun i => if i < k ∧ time < (opn p i).time then -1 else V i)) ∧ Fr (· = G) w4 wr) (fun vi _ => p.length - (intOf vi).toNat)
  case atStart => exact ⟨0, by omega, rfl, Lib.hid (by simpa using HA4.out), Fr.refl _ _⟩
  case round =>
    clear HA4
    obtain ⟨k, hk, rfl, HA, hfr⟩ := hrel
    by_cases hlt : k < p.length
    · obtain ⟨b1, off, cp1, hv, hc, hcl⟩ := Sl.at HL.out.1 (by omega)
      injection hv with hv1 _ hv3
      subst hv1 hv3
      have hb0 : Below w.heap.size w wr := h4'.trans (hfr.below h4'.size (fun j hj => by omega))
      obtain ⟨c0, c1, c2, c3, c4, c5⟩ := op_cells (hcl.keeps (Keeps.of_below hb0)) k hlt
      have ho := opn_eq hlt
      obtain ⟨bh, ch, hoh⟩ := (HL.out.2 p[k] (List.getElem_mem _)).shape
      rw [← ho] at c0 c1 c2 c3 c4 c5 hoh
      have HS1 := Lib.hid (cut_step p time V k)
      have HS2 := Lib.hid (cut_skip p time V k)
      have HAx := HA.out.alloc' (.cells #[.int .i64 (opn p k).time, .int .i64 (opn p k).c0, .int .i64 (opn p k).c1, .int .i64 (opn p k).unit, .int .i64 (opn p k).kind, (opn p k).h] 37)
      clear hcl ho
      generalize hoo : opn p k = o at *
      obtain ⟨t, a0, a1, u, kd, oh, src⟩ := o
      simp only at *
      subst hoh
      have c := HAx.cell hlt
      have f := HAx.frozen k
      have HG := Lib.hid (HAx.set k (-1))
      have HGn := Lib.hid HAx
      clear HAx hoo
      by_cases htt : time < t
      · rw [HS1.out htt] at HG
        clear HGn
        go_wp2
        go_roundw
        case rel => exact ⟨k + 1, by omega, by go_num, HG, (hfr.alloc _).setCell (a := ⟨G, k, none⟩) rfl _⟩
        case measure => simp [intOf]; omega
      · rw [HS2.out htt] at HGn
        clear HG
        go_wp2
        go_roundw
        case rel => exact ⟨k + 1, by omega, by go_num, HGn, hfr.alloc _⟩
        case measure => simp [intOf]; omega
    · obtain rfl : k = p.length := by omega
      go_wp2
      go_ret2
      have hs := theV_spec HZ.out.1 HZ.out.2
      have he := theV_eq HP.out.ok HP.out.ready HZ.out.1 HZ.out.2
      refine ⟨G, rfl, by omega, HA.out.congr fun i hi => ?_, hs, h4'.trans (hfr.below h4'.size (fun j hj => by omega))⟩
      unfold untilV
      rw [← he i hi]
      simp [hi]
end Go.Proofs.Ytmjdmpapickgkaa
