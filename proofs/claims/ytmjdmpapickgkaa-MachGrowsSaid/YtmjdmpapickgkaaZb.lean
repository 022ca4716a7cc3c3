import Derived.Test.YtmjdmpapickgkaaZa
import Derived.Test.YtmjdmpapickgkaaRows
import Derived.ProofKit
import Derived.OpenShut
import Derived.ChangeOld
import Derived.Deep.Slices
namespace Go.Proofs.Ytmjdmpapickgkaa
open Go.RowKit Go.Kk

/-- the error of a run -/
def runE (p : List Opn) : Int := if okProg p = true then (if meets p = none then (if waitL p = [] then 0 else 82) else 81) else 80
theorem runE_zero {p : List Opn} (h : runE p = 0) : Runs p := by
  unfold runE at h
  split at h
  · rename_i h1
    split at h
    · rename_i h2
      split at h
      · rename_i h3
        exact ⟨h1, h2, h3⟩
      · omega
    · omega
  · omega
theorem runE_runs {p : List Opn} (h : Runs p) : runE p = 0 := by unfold runE; rw [if_pos h.ok, if_pos h.free, if_pos h.ready]
theorem runE_bad {p : List Opn} (h : okProg p = false) : runE p = 80 := by unfold runE; rw [if_neg (by simp [h])]
theorem runE_busy {p : List Opn} (h : okProg p = true) (hm : meets p ≠ none) : runE p = 81 := by unfold runE; rw [if_pos h, if_neg hm]
theorem runE_wait {p : List Opn} (h : okProg p = true) (hm : meets p = none) (hw : waitL p ≠ []) : runE p = 82 := by unfold runE; rw [if_pos h, if_pos hm, if_neg hw]
theorem runE_rng (p : List Opn) : 0 ≤ runE p ∧ runE p ≤ 82 := by unfold runE; repeat' split
                                                                 all_goals omega

theorem until_err (p : List Opn) (v : Value) (time : Int) (w : World) (hl : IsProg w v p) (hlen : Narrow p) (h : runE p ≠ 0) : Calls Try.prog 14 #[v, .int .i64 time] w (ErrPost (runE p) w) := by
  by_cases hok : okProg p = true
  · by_cases hm : meets p = none
    · by_cases hw : waitL p = []
      · exact absurd (runE_runs ⟨hok, hm, hw⟩) h
      · rw [runE_wait hok hm hw]; exact until_wait p v time w hl hok hm hw
    · rw [runE_busy hok hm]; exact until_busy p v time w hl hok hm
  · have hok' : okProg p = false := by simpa using hok
    rw [runE_bad hok']; exact until_bad p v time w hl hlen hok'
theorem refrun_err (p : List Opn) (v : Value) (w : World) (hl : IsProg w v p) (hlen : Narrow p) (h : runE p ≠ 0) : Calls Try.prog 35 #[v] w (ErrPost (runE p) w) := by
  by_cases hok : okProg p = true
  · by_cases hm : meets p = none
    · by_cases hw : waitL p = []
      · exact absurd (runE_runs ⟨hok, hm, hw⟩) h
      · rw [runE_wait hok hm hw]; exact refrun_wait p v w hl hok hm hw
    · rw [runE_busy hok hm]; exact refrun_busy p v w hl hok hm
  · have hok' : okProg p = false := by simpa using hok
    rw [runE_bad hok']; exact refrun_bad p v w hl hlen hok'
theorem refrun_runs (p : List Opn) (v : Value) (w : World) (hl : IsProg w v p) (hp : Runs p) (h60 : p.length ≤ 60) : Calls Try.prog 35 #[v] w fun e w' => ∃ G, e = .returned (.tuple #[rowV G p.length, .int .i64 0]) ∧ w.heap.size ≤ G ∧ ArrV w' G p.length (theV p) ∧ Below w.heap.size w w' :=
  (refrun_ok p v w hl hp.ok hp.free hp.ready h60).mono fun _ _ ⟨G, V, he, hG, hA, h1, h2, hb⟩ => ⟨G, he, hG, hA.congr (theV_eq hp.ok hp.ready h1 h2), hb⟩

theorem untilV_all {p : List Opn} (hok : okProg p = true) : ∀ i, i < p.length → untilV p 100000 i = theV p i := by
  intro i hi
  have := timeOf_bd hok i hi
  rw [timeOf_opn hi] at this
  unfold untilV
  rw [if_neg (by omega)]

/-- the values in a row of its own -/
def RowPost (n : Nat) (V : Nat → Int) (w : World) (e : Ending) (w' : World) : Prop := ∃ G, e = .returned (.tuple #[rowV G n, .int .i64 0]) ∧ w.heap.size ≤ G ∧ ArrV w' G n V ∧ Below w.heap.size w w'

set_option maxHeartbeats 400000 in
theorem Run_err (p : List Opn) (v : Value) (w : World) (hl : IsProg w v p) (hlen : Narrow p) (h : runE p ≠ 0) : Calls Try.prog 12 #[v] w (ErrPost (runE p) w) := by
  have HU := Lib.hid (until_err p v 100000 w hl hlen h)
  clear hl h
  generalize runE p = er at *
  go_enter Try.func12, Try.ntmps12
  go_wp2_with (first | (go_at_call 14; refine HU.out.mono ?_; rintro e w1 ⟨rfl, h1⟩))
  go_ret2
  exact ⟨rfl, h1⟩
set_option maxHeartbeats 400000 in
theorem Run_ok (p : List Opn) (v : Value) (w : World) (hl : IsProg w v p) (hp : Runs p) (h60 : p.length ≤ 60) : Calls Try.prog 12 #[v] w (UntilPost p 100000 w) := by
  have HU := Lib.hid (until_ok p v 100000 w hl hp h60)
  clear hl hp
  unfold UntilPost at HU
  go_enter Try.func12, Try.ntmps12
  go_wp2_with (first | (go_at_call 14; refine HU.out.mono ?_; rintro e w1 ⟨G, rfl, hG, hA, hs, h1⟩))
  go_ret2
  exact ⟨G, rfl, hG, hA, hs, h1⟩
set_option maxHeartbeats 400000 in
theorem refRun_err (p : List Opn) (v : Value) (w : World) (hl : IsProg w v p) (hlen : Narrow p) (h : runE p ≠ 0) : Calls Try.prog 13 #[v] w (ErrPost (runE p) w) := by
  have HU := Lib.hid (refrun_err p v w hl hlen h)
  clear hl h
  generalize runE p = er at *
  go_enter Try.func13, Try.ntmps13
  go_wp2_with (first | (go_at_call 35; refine HU.out.mono ?_; rintro e w1 ⟨rfl, h1⟩))
  go_ret2
  exact ⟨rfl, h1⟩
set_option maxHeartbeats 400000 in
theorem refRun_ok (p : List Opn) (v : Value) (w : World) (hl : IsProg w v p) (hp : Runs p) (h60 : p.length ≤ 60) : Calls Try.prog 13 #[v] w (RowPost p.length (theV p) w) := by
  have HU := Lib.hid (refrun_runs p v w hl hp h60)
  clear hl hp
  go_enter Try.func13, Try.ntmps13
  go_wp2_with (first | (go_at_call 35; refine HU.out.mono ?_; rintro e w1 ⟨G, rfl, hG, hA, h1⟩))
  go_ret2
  exact ⟨G, rfl, hG, hA, h1⟩

set_option maxHeartbeats 400000 in
theorem refUntil_err (p : List Opn) (v : Value) (time : Int) (w : World) (hl : IsProg w v p) (hlen : Narrow p) (h : runE p ≠ 0) : Calls Try.prog 15 #[v, .int .i64 time] w (ErrPost (runE p) w) := by
  have HU := Lib.hid (refrun_err p v w hl hlen h)
  clear hl h
  generalize runE p = er at *
  go_enter Try.func15, Try.ntmps15
  go_wp2_with (first | (go_at_call 35; refine HU.out.mono ?_; rintro e w1 ⟨rfl, h1⟩))
  refine wp_loop_rounds 1 ?_
  rw [rounds_succ]
  go_wp2
  go_ret2
  exact ⟨rfl, h1⟩

set_option maxRecDepth 100000 in
set_option maxHeartbeats 1000000 in
theorem refUntil_ok (p : List Opn) (v : Value) (time : Int) (w : World) (hl : IsProg w v p) (hp : Runs p) (h60 : p.length ≤ 60) : Calls Try.prog 15 #[v, .int .i64 time] w (RowPost p.length (untilV p time) w) := by
  obtain ⟨bs, cq, hval⟩ := hl.1.shape
  subst hval
  have HU := Lib.hid (refrun_runs p _ w hl hp h60)
  have HL := Lib.hid hl
  clear hl hp
  go_enter Try.func15, Try.ntmps15
  go_wp2_with (first | (go_at_call 35; refine HU.out.mono ?_; rintro e w4 ⟨G, rfl, hG, hA, h4'⟩))
  have HA4 := Lib.hid hA
  clear hA
  go_loopw [8] (fun vi wr => ∃ k : Nat, k ≤ p.length ∧ vi = .int .i64 k ∧ Hid (ArrV wr G p.length (fun i => if i < k ∧ time < (opn p i).time then -1 else theV p i)) ∧ Fr (· = G) w4 wr) (fun vi _ => p.length - (intOf vi).toNat)
  case atStart => exact ⟨0, by omega, rfl, Lib.hid (by simpa using HA4.out), Fr.refl _ _⟩
  case round =>
    clear HA4
    obtain ⟨k, hk, rfl, HA, hfr⟩ := hrel
    by_cases hlt : k < p.length
    · obtain ⟨b1, off, cp1, hv, hc, hcl⟩ := Sl.at HL.out.1 (by omega)
      injection hv with hv1 _ hv3
      subst hv1 hv3
      have hb0 : Below w.heap.size w wr := h4'.trans (hfr.below h4'.size (fun j hj => by omega))
      obtain ⟨c0, _⟩ := op_cells (hcl.keeps (Keeps.of_below hb0)) k hlt
      have ho := opn_eq hlt
      rw [← ho] at c0
      have HS1 := Lib.hid (cut_step p time (theV p) k)
      have HS2 := Lib.hid (cut_skip p time (theV p) k)
      clear hcl ho
      have c := HA.out.cell hlt
      have f := HA.out.frozen k
      have HG := Lib.hid (HA.out.set k (-1))
      have hfr2 := hfr.setCell (a := ⟨G, k, none⟩) rfl (.int .i64 (-1))
      generalize hx : (if k < k ∧ time < (opn p k).time then -1 else theV p k) = x at c
      clear hx
      by_cases htt : time < (opn p k).time
      · rw [HS1.out htt] at HG
        clear HS1 HS2
        generalize (opn p k).time = t at *
        go_wp2
        go_roundw
        case rel => exact ⟨k + 1, by omega, by go_num, HG, hfr2⟩
        case measure => simp [intOf]; omega
      · have HA2 := Lib.hid HA.out
        rw [HS2.out htt] at HA2
        clear HS1 HS2 HG
        generalize (opn p k).time = t at *
        go_wp2
        go_roundw
        case rel => exact ⟨k + 1, by omega, by go_num, HA2, hfr⟩
        case measure => simp [intOf]; omega
    · obtain rfl : k = p.length := by omega
      go_wp2
      go_ret2
      refine ⟨G, rfl, by omega, HA.out.congr fun i hi => ?_, h4'.trans (hfr.below h4'.size (fun j hj => by omega))⟩
      unfold untilV
      simp [hi]
end Go.Proofs.Ytmjdmpapickgkaa

namespace Go.Proofs.Ytmjdmpapickgkaa
open Go.RowKit Go.Kk

def meetA (p : List Opn) : Int := if okProg p = true then (match meets p with | some i => (i : Int) | none => 0) else 0
def meetB (p : List Opn) : Int := if okProg p = true then (match meets p with | some i => ((grp p p.length (opn p i))[1]! : Nat) | none => 0) else 0
def meetE (p : List Opn) : Int := if okProg p = true then (if meets p = none then 5 else 0) else 80
theorem meetV_is {p : List Opn} (h : okProg p = true) : meetV p = .tuple #[.int .i64 (meetA p), .int .i64 (meetB p), .bool (decide (meetE p = 0))] := by
  unfold meetV meetA meetB meetE
  rw [if_pos h, if_pos h, if_pos h]
  cases meets p <;> simp

set_option maxHeartbeats 400000 in
theorem Meet_any (p : List Opn) (v : Value) (w : World) (hl : IsProg w v p) (hlen : Narrow p) : Calls Try.prog 18 #[v] w fun e w' => e = .returned (.tuple #[.int .i64 (meetA p), .int .i64 (meetB p), .int .i64 (meetE p)]) ∧ Below w.heap.size w w' := by
  have HV := Lib.hid (valid_any p v w hl hlen)
  by_cases hok : okProg p = true
  · have HM := Lib.hid (fun w1 (hb : Below w.heap.size w w1) => meet_any p v w1 (hl.keeps (Keeps.of_below hb)) hok)
    rw [hok] at HV
    rw [meetV_is hok] at HM
    by_cases hm : meets p = none
    · have h5 : meetE p = 5 := by unfold meetE; rw [if_pos hok, if_pos hm]
      have ha : meetA p = 0 := by unfold meetA; rw [if_pos hok, hm]
      have hb : meetB p = 0 := by unfold meetB; rw [if_pos hok, hm]
      rw [h5, ha, hb] at HM ⊢
      rw [show decide ((5 : Int) = 0) = false from rfl] at HM
      clear hl hok hm h5 ha hb
      go_enter Try.func18, Try.ntmps18
      go_wp2_with (first
        | (go_at_call 22; refine HV.out.mono ?_; rintro e w1 ⟨rfl, h1⟩)
        | (go_at_call 36; refine (HM.out _ h1).mono ?_; rintro e w2 ⟨rfl, h2⟩))
      go_ret3
      exact ⟨rfl, h1.trans (h2.mono h1.size)⟩
    · have h5 : meetE p = 0 := by unfold meetE; rw [if_pos hok, if_neg hm]
      rw [h5] at HM ⊢
      rw [show decide ((0 : Int) = 0) = true from rfl] at HM
      clear hl hok hm h5
      generalize meetA p = a at *
      generalize meetB p = b at *
      go_enter Try.func18, Try.ntmps18
      go_wp2_with (first
        | (go_at_call 22; refine HV.out.mono ?_; rintro e w1 ⟨rfl, h1⟩)
        | (go_at_call 36; refine (HM.out _ h1).mono ?_; rintro e w2 ⟨rfl, h2⟩))
      go_ret3
      exact ⟨rfl, h1.trans (h2.mono h1.size)⟩
  · have hok' : okProg p = false := by simpa using hok
    rw [hok'] at HV
    have h5 : meetE p = 80 := by unfold meetE; rw [if_neg hok]
    have ha : meetA p = 0 := by unfold meetA; rw [if_neg hok]
    have hb : meetB p = 0 := by unfold meetB; rw [if_neg hok]
    rw [h5, ha, hb]
    clear hl hok hok' h5 ha hb
    go_enter Try.func18, Try.ntmps18
    go_wp2_with (first | (go_at_call 22; refine HV.out.mono ?_; rintro e w1 ⟨rfl, h1⟩))
    go_ret3
    exact ⟨rfl, h1⟩

set_option maxHeartbeats 400000 in
theorem refMeetX_any (p : List Opn) (v : Value) (w : World) (hl : IsProg w v p) (hlen : Narrow p) : Calls Try.prog 19 #[v] w fun e w' => e = .returned (.tuple #[.int .i64 (meetA p), .int .i64 (meetB p), .int .i64 (meetE p)]) ∧ Below w.heap.size w w' := by
  have HV := Lib.hid (refValid_any p v w hl hlen)
  by_cases hok : okProg p = true
  · have HM := Lib.hid (fun w1 (hb : Below w.heap.size w w1) => refMeet_any p v w1 (hl.keeps (Keeps.of_below hb)) hok)
    rw [hok] at HV
    rw [meetV_is hok] at HM
    by_cases hm : meets p = none
    · have h5 : meetE p = 5 := by unfold meetE; rw [if_pos hok, if_pos hm]
      have ha : meetA p = 0 := by unfold meetA; rw [if_pos hok, hm]
      have hb : meetB p = 0 := by unfold meetB; rw [if_pos hok, hm]
      rw [h5, ha, hb] at HM ⊢
      rw [show decide ((5 : Int) = 0) = false from rfl] at HM
      clear hl hok hm h5 ha hb
      go_enter Try.func19, Try.ntmps19
      go_wp2_with (first
        | (go_at_call 17; refine HV.out.mono ?_; rintro e w1 ⟨rfl, h1⟩)
        | (go_at_call 41; refine (HM.out _ h1).mono ?_; rintro e w2 ⟨rfl, h2⟩))
      go_ret3
      exact ⟨rfl, h1.trans (h2.mono h1.size)⟩
    · have h5 : meetE p = 0 := by unfold meetE; rw [if_pos hok, if_neg hm]
      rw [h5] at HM ⊢
      rw [show decide ((0 : Int) = 0) = true from rfl] at HM
      clear hl hok hm h5
      generalize meetA p = a at *
      generalize meetB p = b at *
      go_enter Try.func19, Try.ntmps19
      go_wp2_with (first
        | (go_at_call 17; refine HV.out.mono ?_; rintro e w1 ⟨rfl, h1⟩)
        | (go_at_call 41; refine (HM.out _ h1).mono ?_; rintro e w2 ⟨rfl, h2⟩))
      go_ret3
      exact ⟨rfl, h1.trans (h2.mono h1.size)⟩
  · have hok' : okProg p = false := by simpa using hok
    rw [hok'] at HV
    have h5 : meetE p = 80 := by unfold meetE; rw [if_neg hok]
    have ha : meetA p = 0 := by unfold meetA; rw [if_neg hok]
    have hb : meetB p = 0 := by unfold meetB; rw [if_neg hok]
    rw [h5, ha, hb]
    clear hl hok hok' h5 ha hb
    go_enter Try.func19, Try.ntmps19
    go_wp2_with (first | (go_at_call 17; refine HV.out.mono ?_; rintro e w1 ⟨rfl, h1⟩))
    go_ret3
    exact ⟨rfl, h1⟩
end Go.Proofs.Ytmjdmpapickgkaa

namespace Go.Proofs.Ytmjdmpapickgkaa
open Go.RowKit Go.Kk

/-- the program of the sanity check -/
def saneP (h0 h1 : Value) : List Opn := [⟨0, 0, 0, 0, 1, h0, [⟨-1, 5, 0⟩]⟩, ⟨1, 0, 0, 0, 2, h1, [⟨0, 0, 0⟩, ⟨-1, 3, 0⟩]⟩]
theorem sane_runs (h0 h1 : Value) : Runs (saneP h0 h1) := ⟨rfl, rfl, rfl⟩
theorem sane_vals (h0 h1 : Value) {V : Nat → Int} (h : ∀ i, i < 2 → IsValAt (saneP h0 h1) V i) : V 0 = 5 ∧ V 1 = 8 := by
  have e0 := h 0 (by omega)
  have e1 := h 1 (by omega)
  have k0 : V 0 = 5 := by
    unfold IsValAt at e0
    rw [e0]
    simp [opn, saneP, appl, opVal, srcN, srcV]
  refine ⟨k0, ?_⟩
  unfold IsValAt at e1
  rw [e1]
  simp [opn, saneP, appl, opVal, srcN, srcV, k0]

theorem cells_of {w : World} {b : Nat} {cs : Array Value} {e : TypeId} {f : Nat × Nat} (h : w.heap[b]? = some (.cells cs e f)) {xs : List Value} (hx : cs.toList = xs) : Cells w b 0 xs := fun j u hu => by
  rw [Nat.zero_add]
  exact cell_of_heap h (by subst hx; simpa using hu)
abbrev saneW (w : World) : World := (((w.alloc (.cells #[.int .i64 (-1), .int .i64 5, .int .i64 0] 52)).alloc (.cells #[.int .i64 0, .int .i64 0, .int .i64 0, .int .i64 (-1), .int .i64 3, .int .i64 0] 52)).alloc
      (.cells #[.int .i64 0, .int .i64 0, .int .i64 0, .int .i64 0, .int .i64 1, .slice (some ⟨w.heap.size, 0, none⟩) 1 1, .int .i64 1, .int .i64 0, .int .i64 0, .int .i64 0, .int .i64 2, .slice (some ⟨w.heap.size + 1, 0, none⟩) 2 2] 37))
theorem sane_prog (w : World) : IsProg (saneW w) (.slice (some ⟨w.heap.size + 1 + 1, 0, none⟩) 2 2) (saneP (.slice (some ⟨w.heap.size, 0, none⟩) 1 1) (.slice (some ⟨w.heap.size + 1, 0, none⟩) 2 2)) := by
  have b2 : (saneW w).heap[w.heap.size + 1 + 1]? = some (.cells #[.int .i64 0, .int .i64 0, .int .i64 0, .int .i64 0, .int .i64 1, .slice (some ⟨w.heap.size, 0, none⟩) 1 1, .int .i64 1, .int .i64 0, .int .i64 0, .int .i64 0, .int .i64 2, .slice (some ⟨w.heap.size + 1, 0, none⟩) 2 2] 37) := newH _ _ _ (by simp)
  have b1 : (saneW w).heap[w.heap.size + 1]? = some (.cells #[.int .i64 0, .int .i64 0, .int .i64 0, .int .i64 (-1), .int .i64 3, .int .i64 0] 52) := by
    rw [heap_alloc_old _ _ (by simp)]; exact newH _ _ _ (by simp)
  have b0 : (saneW w).heap[w.heap.size]? = some (.cells #[.int .i64 (-1), .int .i64 5, .int .i64 0] 52) := by
    rw [heap_alloc_old _ _ (by simp; omega), heap_alloc_old _ _ (by simp)]; exact newH _ _ _ (by simp)
  refine ⟨⟨rfl, .inr (.inl ⟨_, 0, _, rfl, Nat.le_refl _, cells_of b2 rfl⟩)⟩, fun o ho => ?_⟩
  simp only [saneP, List.mem_cons, List.not_mem_nil, or_false] at ho
  rcases ho with rfl | rfl
  · exact ⟨rfl, .inr (.inl ⟨_, 0, _, rfl, Nat.le_refl _, cells_of b0 rfl⟩)⟩
  · exact ⟨rfl, .inr (.inl ⟨_, 0, _, rfl, Nat.le_refl _, cells_of b1 rfl⟩)⟩

set_option maxHeartbeats 1000000 in
theorem sane_any (w : World) : Calls Try.prog 11 #[] w fun e w' => e = .returned (.bool true) ∧ Below w.heap.size w w' := by
  have HR := Lib.hid (Run_ok _ _ _ (sane_prog w) (sane_runs _ _) (by simp [saneP]))
  have hb : Below w.heap.size w (saneW w) := ((below_alloc2 w _ _).alloc (by simp; omega) _)
  have HB := Lib.hid (hb)
  clear hb
  unfold UntilPost at HR
  rw [show ∀ h0 h1, (saneP h0 h1).length = 2 from fun _ _ => rfl] at HR
  go_enter Try.func11, Try.ntmps11
  go_wp2_with (first | (go_at_call 12; refine HR.out.mono ?_; rintro e w1 ⟨G, rfl, hG, hA, hs, h1⟩; have hv := sane_vals _ _ (fun i hi => (hs i hi).1); have hA2 : ArrV w1 G 2 _ := hA.congr (untilV_all (sane_runs _ _).ok); have c0 := hA2.cell (show 0 < 2 by omega); have c1 := hA2.cell (show 1 < 2 by omega); rw [hv.1] at c0; rw [hv.2] at c1; clear hv hs hA hA2))
  go_ret
  exact ⟨rfl, HB.out.trans (h1.mono HB.out.size)⟩
end Go.Proofs.Ytmjdmpapickgkaa

namespace Go.Proofs.Ytmjdmpapickgkaa
open Go.ChangeShapes Go.WideShapes Go.ChangeAt Go.RowKit Go.Kk

theorem i64_of_wf {n : Int} (h : (Lit.int .i64 n).wf = true) : -9223372036854775808 ≤ n ∧ n ≤ 9223372036854775807 := by
  simpa [Lit.wf, IntKind.min, IntKind.max, IntKind.signed, IntKind.bits] using h

theorem flat_len {α : Type} (k : Nat) (c : α → List Value) (l : List α) (h : ∀ x ∈ l, (c x).length = k) : (l.flatMap c).length = l.length * k := by
  induction l with
  | nil => simp
  | cons a l ih => rw [List.flatMap_cons, List.length_append, h a (by simp), ih (fun x hx => h x (by simp [hx])), List.length_cons, Nat.succ_mul]; omega
theorem flat_cells {α : Type} (k : Nat) (hk : 0 < k) (c : α → List Value) (n : Nat) (f : Nat → α) (w : World) (b off : Nat) (hc : ∀ i, i < n → (c (f i)).length = k) (h : ∀ i r, i < n → r < k → w.cell? ⟨b, off + (i * k + r), none⟩ = (c (f i))[r]?) :
    Cells w b off (((List.range n).map f).flatMap c) := by
  intro j u hu
  have hl : (((List.range n).map f).flatMap c).length = n * k := by
    rw [List.length_flatMap]
    have : ∀ m, m ≤ n → (((List.range m).map f).map fun x => (c x).length).sum = m * k := by
      intro m
      induction m with
      | zero => intro _; simp
      | succ m ih =>
        intro hm
        rw [List.range_succ, List.map_append, List.map_append, List.sum_append, ih (by omega)]
        simp [hc m (by omega), Nat.succ_mul]
    exact this n (Nat.le_refl _)
  have hj : j < n * k := by
    rw [← hl]
    rcases Nat.lt_or_ge j ((((List.range n).map f).flatMap c).length) with h | h
    · exact h
    · rw [List.getElem?_eq_none h] at hu; cases hu
  have hi : j / k < n := (Nat.div_lt_iff_lt_mul hk).2 hj
  have hr : j % k < k := Nat.mod_lt _ hk
  have e : j = j / k * k + j % k := by rw [Nat.mul_comm]; exact (Nat.div_add_mod _ _).symm
  have hm : ∀ x ∈ (List.range n).map f, (c x).length = k := by
    intro x hx
    obtain ⟨i, hi, rfl⟩ := List.mem_map.1 hx
    exact hc i (by simpa using hi)
  have := flatMap_get c k ((List.range n).map f) hm (j / k) (by simpa using hi) (j % k) hr
  rw [← e] at this
  rw [this] at hu
  simp only [List.getElem_map, List.getElem_range] at hu
  rw [e, h _ _ hi hr]
  exact hu

instance : Inhabited Src := ⟨⟨0, 0, 0⟩⟩
section
variable {H : Type} {enc : TypeId × Value → H} {w : World} {base : Nat} {spare : Nat → Bool} {held : Bool}

/-- a field of a struct that came in -/
theorem field_of {fs : Array Field} {i t o k : Nat} {n : Nat} {cs : List Value} {xs : List (DataW H × List MemPlace)} (hl : xs.length = fs.size)
    (hx : ∀ (i : Nat) (f : Field), fs[i]? = some f → DataW.trod enc Try.prog w base spare held n f.type ((cs.drop f.offset).take (Try.prog.cellsOf f.type)) = xs[i]?)
    (hf : (fs[i]?).map (fun f => (f.type, f.offset)) = some (t, o)) (hk : Try.prog.cellsOf t = k) : ∃ y, DataW.trod enc Try.prog w base spare held n t ((cs.drop o).take k) = some y := by
  cases h : fs[i]? with
  | none => rw [h] at hf; cases hf
  | some f =>
    rw [h] at hf
    simp at hf
    obtain ⟨rfl, rfl⟩ := hf
    have := hx i f h
    rw [hk] at this
    have hi : i < fs.size := (Array.getElem?_eq_some_iff.1 h).1
    rw [List.getElem?_eq_getElem (by omega)] at this
    exact ⟨_, this⟩

theorem open_src {fuel : Nat} {cs : List Value} {x : DataW H × List MemPlace} (hlen : cs.length = 3) (h : DataW.trod enc Try.prog w base spare held fuel 52 cs = some x) : ∃ s : Src, cs = s.cells := by
  obtain ⟨xs, n, _, _, _, hl, hx⟩ := DataW.trod_struct Try.underlying52 h
  obtain ⟨y0, e0⟩ := field_of (i := 0) (t := 3) (o := 0) hl hx rfl (k := 1) (by kernel_rfl)
  obtain ⟨y1, e1⟩ := field_of (i := 1) (t := 3) (o := 1) hl hx rfl (k := 1) (by kernel_rfl)
  obtain ⟨y2, e2⟩ := field_of (i := 2) (t := 3) (o := 2) hl hx rfl (k := 1) (by kernel_rfl)
  match cs, hlen with
  | [c0, c1, c2], _ =>
    simp only [List.drop_succ_cons, List.drop_zero, List.take_succ_cons, List.take_zero] at e0 e1 e2
    obtain ⟨n0, g0, _, w0⟩ := DataW.trod_int (show Try.prog.underlying 3 = some (.int .i64) by kernel_rfl) e0
    obtain ⟨n1, g1, _, w1⟩ := DataW.trod_int (show Try.prog.underlying 3 = some (.int .i64) by kernel_rfl) e1
    obtain ⟨n2, g2, _, w2⟩ := DataW.trod_int (show Try.prog.underlying 3 = some (.int .i64) by kernel_rfl) e2
    simp at g0 g1 g2
    subst g0 g1 g2
    exact ⟨⟨n0, n1, n2⟩, rfl⟩

theorem open_srcs {fuel : Nat} {v : Value} {x : DataW H × List MemPlace} (h : DataW.trod enc Try.prog w base spare held fuel 35 [v] = some x) : ∃ l : List Src, IsSrcs w v l ∧ l.length ≤ maxLen := by
  rcases Go.Deep.open_slice (show Try.prog.underlying 35 = some (.slice 52) by kernel_rfl) h with ⟨hcs, _⟩ | ⟨a, len, cap, m, n, D, Pl, hcs, _, hl, hm, hmm, _, hx⟩
  · obtain rfl : v = .slice none 0 0 := by simpa using hcs
    exact ⟨[], Sl.nil w 3, Nat.zero_le _⟩
  · obtain rfl : v = .slice (some a) len cap := by simpa using hcs
    have hlm : len ≤ m := by rw [hmm]; split <;> omega
    have h3 : Try.prog.cellsOf 52 = 3 := by kernel_rfl
    rw [h3] at hx
    by_cases h0 : len = 0
    · subst h0
      exact ⟨[], ⟨rfl, .inr (.inr ⟨_, _, rfl, rfl⟩)⟩, Nat.zero_le _⟩
    · obtain ⟨b, off, spot⟩ := a
      have hspot : spot = none := by
        obtain ⟨cs, h1, _⟩ := hx 0 (by omega)
        obtain ⟨_, hl2, hc⟩ := World.cells?_some h1
        have := hc 0 (by omega)
        rw [List.getElem?_eq_getElem (by omega)] at this
        simpa [Addr.add] using World.cell?_spot this
      subst hspot
      have hM : ∀ i, i < len → ∃ s : Src, ∀ r, r < 3 → w.cell? ⟨b, off + (i * 3 + r), none⟩ = s.cells[r]? := by
        intro i hi
        obtain ⟨cs, h1, h2⟩ := hx i (by omega)
        obtain ⟨_, hl2, hc⟩ := World.cells?_some h1
        obtain ⟨s, rfl⟩ := open_src hl2 h2
        refine ⟨s, fun r hr => ?_⟩
        have := hc r hr
        rw [plain_add, plain_add, Nat.add_assoc] at this
        exact this
      obtain ⟨f, hf⟩ := Go.Deep.choose_lt (α := Src) (p := fun i s => ∀ r, r < 3 → w.cell? ⟨b, off + (i * 3 + r), none⟩ = s.cells[r]?) hM
      refine ⟨(List.range len).map f, ⟨?_, .inr (.inl ⟨b, off, cap, by simp, by simpa using hl, flat_cells 3 (by omega) Src.cells len f w b off (fun _ _ => rfl) (fun i r hi hr => hf i hi r hr)⟩)⟩, by simp; omega⟩
      exact flat_len 3 _ _ fun _ _ => rfl

theorem open_op {fuel : Nat} {cs : List Value} {x : DataW H × List MemPlace} (hlen : cs.length = 6) (h : DataW.trod enc Try.prog w base spare held fuel 37 cs = some x) : ∃ o : Opn, cs = o.cells ∧ IsSrcs w o.h o.src ∧ o.src.length ≤ maxLen := by
  obtain ⟨xs, n, _, _, _, hl, hx⟩ := DataW.trod_struct Try.underlying37 h
  obtain ⟨y0, e0⟩ := field_of (i := 0) (t := 3) (o := 0) hl hx rfl (k := 1) (by kernel_rfl)
  obtain ⟨y1, e1⟩ := field_of (i := 1) (t := 34) (o := 1) hl hx rfl (k := 2) (by kernel_rfl)
  obtain ⟨y2, e2⟩ := field_of (i := 2) (t := 3) (o := 3) hl hx rfl (k := 1) (by kernel_rfl)
  obtain ⟨y3, e3⟩ := field_of (i := 3) (t := 3) (o := 4) hl hx rfl (k := 1) (by kernel_rfl)
  obtain ⟨y4, e4⟩ := field_of (i := 4) (t := 35) (o := 5) hl hx rfl (k := 1) (by kernel_rfl)
  match cs, hlen with
  | [c0, c1, c2, c3, c4, c5], _ =>
    simp only [List.drop_succ_cons, List.drop_zero, List.take_succ_cons, List.take_zero] at e0 e1 e2 e3 e4
    obtain ⟨n0, g0, _, w0⟩ := DataW.trod_int (show Try.prog.underlying 3 = some (.int .i64) by kernel_rfl) e0
    obtain ⟨ys, n', _, _, _, hyl, hy⟩ := DataW.trod_array (show Try.prog.underlying 34 = some (.array 2 3) by kernel_rfl) e1
    rw [show Try.prog.cellsOf 3 = 1 by kernel_rfl] at hy
    have k0 := hy 0 (by omega)
    have k1 := hy 1 (by omega)
    rw [List.getElem?_eq_getElem (by omega)] at k0 k1
    obtain ⟨n1, g1, _, w1⟩ := DataW.trod_int (show Try.prog.underlying 3 = some (.int .i64) by kernel_rfl) k0
    obtain ⟨n2, g2, _, w2⟩ := DataW.trod_int (show Try.prog.underlying 3 = some (.int .i64) by kernel_rfl) k1
    obtain ⟨n3, g3, _, w3⟩ := DataW.trod_int (show Try.prog.underlying 3 = some (.int .i64) by kernel_rfl) e2
    obtain ⟨n4, g4, _, w4⟩ := DataW.trod_int (show Try.prog.underlying 3 = some (.int .i64) by kernel_rfl) e3
    obtain ⟨l, hs, hll⟩ := open_srcs e4
    simp at g0 g1 g2 g3 g4
    subst g0 g1 g2 g3 g4
    exact ⟨⟨n0, n1, n2, n3, n4, c5, l⟩, rfl, hs, hll⟩

theorem open_prog {fuel : Nat} {v : Value} {x : DataW H × List MemPlace} (h : DataW.trod enc Try.prog w base spare held fuel 22 [v] = some x) : ∃ p : List Opn, IsProg w v p ∧ p.length ≤ maxLen ∧ ∀ o ∈ p, o.src.length ≤ maxLen := by
  rcases Go.Deep.open_slice (show Try.prog.underlying 22 = some (.slice 37) by kernel_rfl) h with ⟨hcs, _⟩ | ⟨a, len, cap, m, n, D, Pl, hcs, _, hl, hm, hmm, _, hx⟩
  · obtain rfl : v = .slice none 0 0 := by simpa using hcs
    exact ⟨[], ⟨Sl.nil w 6, by simp⟩, Nat.zero_le _, by simp⟩
  · obtain rfl : v = .slice (some a) len cap := by simpa using hcs
    have hlm : len ≤ m := by rw [hmm]; split <;> omega
    have h6 : Try.prog.cellsOf 37 = 6 := by kernel_rfl
    rw [h6] at hx
    by_cases h0 : len = 0
    · subst h0
      exact ⟨[], ⟨⟨rfl, .inr (.inr ⟨_, _, rfl, rfl⟩)⟩, by simp⟩, Nat.zero_le _, by simp⟩
    · obtain ⟨b, off, spot⟩ := a
      have hspot : spot = none := by
        obtain ⟨cs, h1, _⟩ := hx 0 (by omega)
        obtain ⟨_, hl2, hc⟩ := World.cells?_some h1
        have := hc 0 (by omega)
        rw [List.getElem?_eq_getElem (by omega)] at this
        simpa [Addr.add] using World.cell?_spot this
      subst hspot
      have hM : ∀ i, i < len → ∃ o : Opn, (∀ r, r < 6 → w.cell? ⟨b, off + (i * 6 + r), none⟩ = o.cells[r]?) ∧ IsSrcs w o.h o.src ∧ o.src.length ≤ maxLen := by
        intro i hi
        obtain ⟨cs, h1, h2⟩ := hx i (by omega)
        obtain ⟨_, hl2, hc⟩ := World.cells?_some h1
        obtain ⟨o, rfl, hs, hll⟩ := open_op hl2 h2
        refine ⟨o, fun r hr => ?_, hs, hll⟩
        have := hc r hr
        rw [plain_add, plain_add, Nat.add_assoc] at this
        exact this
      obtain ⟨f, hf⟩ := Go.Deep.choose_lt (α := Opn) (p := fun i o => (∀ r, r < 6 → w.cell? ⟨b, off + (i * 6 + r), none⟩ = o.cells[r]?) ∧ IsSrcs w o.h o.src ∧ o.src.length ≤ maxLen) hM
      refine ⟨(List.range len).map f, ⟨⟨?_, .inr (.inl ⟨b, off, cap, by simp, by simpa using hl, flat_cells 6 (by omega) Opn.cells len f w b off (fun _ _ => rfl) (fun i r hi hr => (hf i hi).1 r hr)⟩)⟩, fun o ho => ?_⟩, by simp; omega, fun o ho => ?_⟩
      · exact flat_len 6 _ _ fun _ _ => rfl
      · obtain ⟨i, hi, rfl⟩ := List.mem_map.1 ho
        exact (hf i (by simpa using hi)).2.1
      · obtain ⟨i, hi, rfl⟩ := List.mem_map.1 ho
        exact (hf i (by simpa using hi)).2.2
end
end Go.Proofs.Ytmjdmpapickgkaa

namespace Go.Proofs.Ytmjdmpapickgkaa
open Go.RowKit Go.Kk

theorem not_wide {p : List Opn} (h : wideP p = false) : Narrow p ∧ (p.length ≤ 60 ∨ 4000 < p.length) := by
  unfold wideP at h
  simp only [Bool.or_eq_false_iff, List.any_eq_false, decide_eq_true_eq, Bool.and_eq_false_iff, decide_eq_false_iff_not] at h
  obtain ⟨⟨h1, h2⟩, h3⟩ := h
  refine ⟨⟨by omega, fun o ho => by have := h1 o ho; omega⟩, by omega⟩
theorem runs_60 {p : List Opn} (hw : p.length ≤ 60 ∨ 4000 < p.length) (hok : okProg p = true) : p.length ≤ 60 := by have := okProg_len hok; omega

set_option maxHeartbeats 1000000 in
theorem machRuns_any (p : List Opn) (v : Value) (time : Int) (w : World) (hl : IsProg w v p) (hlp : p.length ≤ maxLen) (hls : ∀ o ∈ p, o.src.length ≤ maxLen) :
    Calls Try.prog 3 #[v, .int .i64 time] w fun e w' => e = .returned (.bool true) ∧ Below w.heap.size w w' := by
  have HW := Lib.hid (wide_any p v w hl hlp hls)
  have HS := Lib.hid sane_any
  by_cases hw : wideP p = true
  · rw [hw] at HW
    clear hl hlp hls hw
    go_enter Try.func3, Try.ntmps3
    go_wp2_with (first
      | (go_at_call 10; refine HW.out.mono ?_; rintro e w1 ⟨rfl, rfl⟩)
      | (go_at_call 11; refine (HS.out _).mono ?_; rintro e w1 ⟨rfl, h1⟩))
    go_ret
    exact ⟨rfl, h1⟩
  have hw' : wideP p = false := by simpa using hw
  obtain ⟨hn, h60⟩ := not_wide hw'
  rw [hw'] at HW
  by_cases hz : runE p = 0
  · have hp := runE_zero hz
    have h60' := runs_60 h60 hp.ok
    have H12 := Lib.hid (fun w1 (hb : Below w.heap.size w w1) => Run_ok p v w1 (hl.keeps (Keeps.of_below hb)) hp h60')
    have H13 := Lib.hid (fun w1 (hb : Below w.heap.size w w1) => refRun_ok p v w1 (hl.keeps (Keeps.of_below hb)) hp h60')
    have H14 := Lib.hid (fun w1 (hb : Below w.heap.size w w1) => until_ok p v time w1 (hl.keeps (Keeps.of_below hb)) hp h60')
    have H15 := Lib.hid (fun w1 (hb : Below w.heap.size w w1) => refUntil_ok p v time w1 (hl.keeps (Keeps.of_below hb)) hp h60')
    have HP := Lib.hid hp
    unfold UntilPost at H12 H14
    unfold RowPost at H13 H15
    clear hl hlp hls hw hw' hn h60 hz hp
    have tok := Lib.hid trivial
    go_enter Try.func3, Try.ntmps3
    go_wp2_with (first
      | (go_at_call 10; refine HW.out.mono ?_; rintro e w1 ⟨rfl, rfl⟩)
      | (go_at_call 12; refine (H12.out _ (Below.refl _ _)).mono ?_; rintro e w1 ⟨G1, rfl, hG1, hA1, hs1, h1⟩)
      | (go_at_call 13; refine (H13.out _ h1).mono ?_; rintro e w2 ⟨G2, rfl, hG2, hA2, h2⟩; have h2' := h1.trans (h2.mono h1.size))
      | (go_at_call 14; refine (H14.out _ h2').mono ?_; rintro e w3 ⟨G3, rfl, hG3, hA3, hs3, h3⟩; have h3' := h2'.trans (h3.mono h2'.size))
      | (go_at_call 15; refine (H15.out _ h3').mono ?_; rintro e w4 ⟨G4, rfl, hG4, hA4, h4⟩; have h4' := h3'.trans (h4.mono h3'.size); have HI := Lib.hid (And.intro (((hA1.congr (untilV_all HP.out.ok)).ints).keeps ((Keeps.of_below h2).trans ((Keeps.of_below h3).trans (Keeps.of_below h4)))) (And.intro (hA2.ints.keeps ((Keeps.of_below h3).trans (Keeps.of_below h4))) (And.intro (hA3.ints.keeps (Keeps.of_below h4)) hA4.ints))); clear hA1 hA2 hA3 hA4 hs1 hs3)
      | (have _t := tok; go_at_call 16; refine (same_any _ _ _ _ HI.out.1 HI.out.2.1 (by simp [maxLen]; omega)).mono ?_; rintro e w5 ⟨rfl, h5⟩; clear tok _t)
      | (go_at_call 16; refine (same_any _ _ _ _ (HI.out.2.2.1.keeps (Keeps.of_below h5)) (HI.out.2.2.2.keeps (Keeps.of_below h5)) (by simp [maxLen]; omega)).mono ?_; rintro e w6 ⟨rfl, h6⟩)
      | (go_at_call 11; refine (HS.out _).mono ?_; rintro e w7 ⟨rfl, h7⟩))
    go_ret
    have h5' := h4'.trans (h5.mono h4'.size)
    have h6' := h5'.trans (h6.mono h5'.size)
    exact ⟨rfl, h6'.trans (h7.mono h6'.size)⟩
  · have H12 := Lib.hid (fun w1 (hb : Below w.heap.size w w1) => Run_err p v w1 (hl.keeps (Keeps.of_below hb)) hn hz)
    have H13 := Lib.hid (fun w1 (hb : Below w.heap.size w w1) => refRun_err p v w1 (hl.keeps (Keeps.of_below hb)) hn hz)
    have H14 := Lib.hid (fun w1 (hb : Below w.heap.size w w1) => until_err p v time w1 (hl.keeps (Keeps.of_below hb)) hn hz)
    have H15 := Lib.hid (fun w1 (hb : Below w.heap.size w w1) => refUntil_err p v time w1 (hl.keeps (Keeps.of_below hb)) hn hz)
    have H16 := Lib.hid (fun w1 => same_any [] (.slice none 0 0) (.slice none 0 0) w1 (isInts_nil w1) (isInts_nil w1) (by simp))
    unfold ErrPost at H12 H13 H14 H15
    clear hl hlp hls hw hw' hn h60 hz
    generalize runE p = er at *
    have tok := Lib.hid trivial
    go_enter Try.func3, Try.ntmps3
    go_wp2_with (first
      | (go_at_call 10; refine HW.out.mono ?_; rintro e w1 ⟨rfl, rfl⟩)
      | (go_at_call 12; refine (H12.out _ (Below.refl _ _)).mono ?_; rintro e w1 ⟨rfl, h1⟩)
      | (go_at_call 13; refine (H13.out _ h1).mono ?_; rintro e w2 ⟨rfl, h2⟩; have h2' := h1.trans (h2.mono h1.size))
      | (go_at_call 14; refine (H14.out _ h2').mono ?_; rintro e w3 ⟨rfl, h3⟩; have h3' := h2'.trans (h3.mono h2'.size))
      | (go_at_call 15; refine (H15.out _ h3').mono ?_; rintro e w4 ⟨rfl, h4⟩; have h4' := h3'.trans (h4.mono h3'.size))
      | (have _t := tok; go_at_call 16; refine (H16.out _).mono ?_; rintro e w5 ⟨rfl, h5⟩; clear tok _t)
      | (go_at_call 16; refine (H16.out _).mono ?_; rintro e w6 ⟨rfl, h6⟩)
      | (go_at_call 11; refine (HS.out _).mono ?_; rintro e w7 ⟨rfl, h7⟩))
    go_ret
    have h5' := h4'.trans (h5.mono h4'.size)
    have h6' := h5'.trans (h6.mono h5'.size)
    exact ⟨rfl, h6'.trans (h7.mono h6'.size)⟩
end Go.Proofs.Ytmjdmpapickgkaa
