import Derived.Test.YtmjdmpapickgkaaV6
namespace Go.Proofs.Ytmjdmpapickgkaa
open Go.RowKit Go.Kk

/-- the error of a run -/
def runE (p : List Opn) : Int := if okProg p = true then (if meets p = none then (if waitL p = [] then 0 else 82) else 81) else 80
theorem runE_zero {p : List Opn} (h : runE p = 0) : Runs p := by
  unfold runE at h
  split at h
  · rename_i h1
    split at h
    · rename_i h2
      split at h
      · rename_i h3
        exact ⟨h1, h2, h3⟩
      · omega
    · omega
  · omega
theorem runE_runs {p : List Opn} (h : Runs p) : runE p = 0 := by unfold runE; rw [if_pos h.ok, if_pos h.free, if_pos h.ready]
theorem runE_bad {p : List Opn} (h : okProg p = false) : runE p = 80 := by unfold runE; rw [if_neg (by simp [h])]
theorem runE_busy {p : List Opn} (h : okProg p = true) (hm : meets p ≠ none) : runE p = 81 := by unfold runE; rw [if_pos h, if_neg hm]
theorem runE_wait {p : List Opn} (h : okProg p = true) (hm : meets p = none) (hw : waitL p ≠ []) : runE p = 82 := by unfold runE; rw [if_pos h, if_pos hm, if_neg hw]
theorem runE_rng (p : List Opn) : 0 ≤ runE p ∧ runE p ≤ 82 := by unfold runE; repeat' split
                                                                 all_goals omega

theorem until_err (p : List Opn) (v : Value) (time : Int) (w : World) (hl : IsProg w v p) (hlen : Narrow p) (h : runE p ≠ 0) : Calls Try.prog 14 #[v, .int .i64 time] w (ErrPost (runE p) w) := by
  by_cases hok : okProg p = true
  · by_cases hm : meets p = none
    · by_cases hw : waitL p = []
      · exact absurd (runE_runs ⟨hok, hm, hw⟩) h
      · rw [runE_wait hok hm hw]; exact until_wait p v time w hl hok hm hw
    · rw [runE_busy hok hm]; exact until_busy p v time w hl hok hm
  · have hok' : okProg p = false := by simpa using hok
    rw [runE_bad hok']; exact until_bad p v time w hl hlen hok'
theorem refrun_err (p : List Opn) (v : Value) (w : World) (hl : IsProg w v p) (hlen : Narrow p) (h : runE p ≠ 0) : Calls Try.prog 35 #[v] w (ErrPost (runE p) w) := by
  by_cases hok : okProg p = true
  · by_cases hm : meets p = none
    · by_cases hw : waitL p = []
      · exact absurd (runE_runs ⟨hok, hm, hw⟩) h
      · rw [runE_wait hok hm hw]; exact refrun_wait p v w hl hok hm hw
    · rw [runE_busy hok hm]; exact refrun_busy p v w hl hok hm
  · have hok' : okProg p = false := by simpa using hok
    rw [runE_bad hok']; exact refrun_bad p v w hl hlen hok'
theorem refrun_runs (p : List Opn) (v : Value) (w : World) (hl : IsProg w v p) (hp : Runs p) (h60 : p.length ≤ 60) : Calls Try.prog 35 #[v] w fun e w' => ∃ G, e = .returned (.tuple #[rowV G p.length, .int .i64 0]) ∧ w.heap.size ≤ G ∧ ArrV w' G p.length (theV p) ∧ Below w.heap.size w w' :=
  (refrun_ok p v w hl hp.ok hp.free hp.ready h60).mono fun _ _ ⟨G, V, he, hG, hA, h1, h2, hb⟩ => ⟨G, he, hG, hA.congr (theV_eq hp.ok hp.ready h1 h2), hb⟩

theorem untilV_all {p : List Opn} (hok : okProg p = true) : ∀ i, i < p.length → untilV p 100000 i = theV p i := by
  intro i hi
  have := timeOf_bd hok i hi
  rw [timeOf_opn hi] at this
  unfold untilV
  rw [if_neg (by omega)]

/-- the values in a row of its own -/
def RowPost (n : Nat) (V : Nat → Int) (w : World) (e : Ending) (w' : World) : Prop := ∃ G, e = .returned (.tuple #[rowV G n, .int .i64 0]) ∧ w.heap.size ≤ G ∧ ArrV w' G n V ∧ Below w.heap.size w w'

set_option maxHeartbeats 400000 in
theorem Run_err (p : List Opn) (v : Value) (w : World) (hl : IsProg w v p) (hlen : Narrow p) (h : runE p ≠ 0) : Calls Try.prog 12 #[v] w (ErrPost (runE p) w) := by
  have HU := Lib.hid (until_err p v 100000 w hl hlen h)
  clear hl h
  generalize runE p = er at *
  go_enter Try.func12, Try.ntmps12
  go_wp2_with (first | (go_at_call 14; refine HU.out.mono ?_; rintro e w1 ⟨rfl, h1⟩))
  go_ret2
  exact ⟨rfl, h1⟩
set_option maxHeartbeats 400000 in
theorem Run_ok (p : List Opn) (v : Value) (w : World) (hl : IsProg w v p) (hp : Runs p) (h60 : p.length ≤ 60) : Calls Try.prog 12 #[v] w (UntilPost p 100000 w) := by
  have HU := Lib.hid (until_ok p v 100000 w hl hp h60)
  clear hl hp
  unfold UntilPost at HU
  go_enter Try.func12, Try.ntmps12
  go_wp2_with (first | (go_at_call 14; refine HU.out.mono ?_; rintro e w1 ⟨G, rfl, hG, hA, hs, h1⟩))
  go_ret2
  exact ⟨G, rfl, hG, hA, hs, h1⟩
set_option maxHeartbeats 400000 in
theorem refRun_err (p : List Opn) (v : Value) (w : World) (hl : IsProg w v p) (hlen : Narrow p) (h : runE p ≠ 0) : Calls Try.prog 13 #[v] w (ErrPost (runE p) w) := by
  have HU := Lib.hid (refrun_err p v w hl hlen h)
  clear hl h
  generalize runE p = er at *
  go_enter Try.func13, Try.ntmps13
  go_wp2_with (first | (go_at_call 35; refine HU.out.mono ?_; rintro e w1 ⟨rfl, h1⟩))
  go_ret2
  exact ⟨rfl, h1⟩
set_option maxHeartbeats 400000 in
theorem refRun_ok (p : List Opn) (v : Value) (w : World) (hl : IsProg w v p) (hp : Runs p) (h60 : p.length ≤ 60) : Calls Try.prog 13 #[v] w (RowPost p.length (theV p) w) := by
  have HU := Lib.hid (refrun_runs p v w hl hp h60)
  clear hl hp
  go_enter Try.func13, Try.ntmps13
  go_wp2_with (first | (go_at_call 35; refine HU.out.mono ?_; rintro e w1 ⟨G, rfl, hG, hA, h1⟩))
  go_ret2
  exact ⟨G, rfl, hG, hA, h1⟩

set_option maxHeartbeats 400000 in
theorem refUntil_err (p : List Opn) (v : Value) (time : Int) (w : World) (hl : IsProg w v p) (hlen : Narrow p) (h : runE p ≠ 0) : Calls Try.prog 15 #[v, .int .i64 time] w (ErrPost (runE p) w) := by
  have HU := Lib.hid (refrun_err p v w hl hlen h)
  clear hl h
  generalize runE p = er at *
  go_enter Try.func15, Try.ntmps15
  go_wp2_with (first | (go_at_call 35; refine HU.out.mono ?_; rintro e w1 ⟨rfl, h1⟩))
  refine wp_loop_rounds 1 ?_
  rw [rounds_succ]
  go_wp2
  go_ret2
  exact ⟨rfl, h1⟩

set_option maxRecDepth 100000 in
set_option maxHeartbeats 1000000 in
theorem refUntil_ok (p : List Opn) (v : Value) (time : Int) (w : World) (hl : IsProg w v p) (hp : Runs p) (h60 : p.length ≤ 60) : Calls Try.prog 15 #[v, .int .i64 time] w (RowPost p.length (untilV p time) w) := by
  obtain ⟨bs, cq, hval⟩ := hl.1.shape
  subst hval
  have HU := Lib.hid (refrun_runs p _ w hl hp h60)
  have HL := Lib.hid hl
  clear hl hp
  go_enter Try.func15, Try.ntmps15
  go_wp2_with (first | (go_at_call 35; refine HU.out.mono ?_; rintro e w4 ⟨G, rfl, hG, hA, h4'⟩))
  have HA4 := Lib.hid hA
  clear hA
  go_loopw [8] (fun vi wr => ∃ k : Nat, k ≤ p.length ∧ vi = .int .i64 k ∧ Hid (ArrV wr G p.length (fun i => if i < k ∧ time < (opn p i).time then -1 else theV p i)) ∧ Fr (· = G) w4 wr) (fun vi _ => p.length - (intOf vi).toNat)
  case atStart => exact ⟨0, by omega, rfl, Lib.hid (by simpa using HA4.out), Fr.refl _ _⟩
  case round =>
    clear HA4
    obtain ⟨k, hk, rfl, HA, hfr⟩ := hrel
    by_cases hlt : k < p.length
    · obtain ⟨b1, off, cp1, hv, hc, hcl⟩ := Sl.at HL.out.1 (by omega)
      injection hv with hv1 _ hv3
      subst hv1 hv3
      have hb0 : Below w.heap.size w wr := h4'.trans (hfr.below h4'.size (fun j hj => by omega))
      obtain ⟨c0, _⟩ := op_cells (hcl.keeps (Keeps.of_below hb0)) k hlt
      have ho := opn_eq hlt
      rw [← ho] at c0
      have HS1 := Lib.hid (cut_step p time (theV p) k)
      have HS2 := Lib.hid (cut_skip p time (theV p) k)
      clear hcl ho
      have c := HA.out.cell hlt
      have f := HA.out.frozen k
      have HG := Lib.hid (HA.out.set k (-1))
      have hfr2 := hfr.setCell (a := ⟨G, k, none⟩) rfl (.int .i64 (-1))
      generalize hx : (if k < k ∧ time < (opn p k).time then -1 else theV p k) = x at c
      clear hx
      by_cases htt : time < (opn p k).time
      · rw [HS1.out htt] at HG
        clear HS1 HS2
        generalize (opn p k).time = t at *
        go_wp2
        go_roundw
        case rel => exact ⟨k + 1, by omega, by go_num, HG, hfr2⟩
        case measure => simp [intOf]; omega
      · have HA2 := Lib.hid HA.out
        rw [HS2.out htt] at HA2
        clear HS1 HS2 HG
        generalize (opn p k).time = t at *
        go_wp2
        go_roundw
        case rel => exact ⟨k + 1, by omega, by go_num, HA2, hfr⟩
        case measure => simp [intOf]; omega
    · obtain rfl : k = p.length := by omega
      go_wp2
      go_ret2
      refine ⟨G, rfl, by omega, HA.out.congr fun i hi => ?_, h4'.trans (hfr.below h4'.size (fun j hj => by omega))⟩
      unfold untilV
      simp [hi]
end Go.Proofs.Ytmjdmpapickgkaa
