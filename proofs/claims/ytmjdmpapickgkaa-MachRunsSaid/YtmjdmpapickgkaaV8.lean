import Derived.Test.YtmjdmpapickgkaaV7
namespace Go.Proofs.Ytmjdmpapickgkaa
open Go.RowKit Go.Kk

def meetA (p : List Opn) : Int := if okProg p = true then (match meets p with | some i => (i : Int) | none => 0) else 0
def meetB (p : List Opn) : Int := if okProg p = true then (match meets p with | some i => ((grp p p.length (opn p i))[1]! : Nat) | none => 0) else 0
def meetE (p : List Opn) : Int := if okProg p = true then (if meets p = none then 5 else 0) else 80
theorem meetV_is {p : List Opn} (h : okProg p = true) : meetV p = .tuple #[.int .i64 (meetA p), .int .i64 (meetB p), .bool (decide (meetE p = 0))] := by
  unfold meetV meetA meetB meetE
  rw [if_pos h, if_pos h, if_pos h]
  cases meets p <;> simp

set_option maxHeartbeats 400000 in
theorem Meet_any (p : List Opn) (v : Value) (w : World) (hl : IsProg w v p) (hlen : Narrow p) : Calls Try.prog 18 #[v] w fun e w' => e = .returned (.tuple #[.int .i64 (meetA p), .int .i64 (meetB p), .int .i64 (meetE p)]) ∧ Below w.heap.size w w' := by
  have HV := Lib.hid (valid_any p v w hl hlen)
  by_cases hok : okProg p = true
  · have HM := Lib.hid (fun w1 (hb : Below w.heap.size w w1) => meet_any p v w1 (hl.keeps (Keeps.of_below hb)) hok)
    rw [hok] at HV
    rw [meetV_is hok] at HM
    by_cases hm : meets p = none
    · have h5 : meetE p = 5 := by unfold meetE; rw [if_pos hok, if_pos hm]
      have ha : meetA p = 0 := by unfold meetA; rw [if_pos hok, hm]
      have hb : meetB p = 0 := by unfold meetB; rw [if_pos hok, hm]
      rw [h5, ha, hb] at HM ⊢
      rw [show decide ((5 : Int) = 0) = false from rfl] at HM
      clear hl hok hm h5 ha hb
      go_enter Try.func18, Try.ntmps18
      go_wp2_with (first
        | (go_at_call 22; refine HV.out.mono ?_; rintro e w1 ⟨rfl, h1⟩)
        | (go_at_call 36; refine (HM.out _ h1).mono ?_; rintro e w2 ⟨rfl, h2⟩))
      go_ret3
      exact ⟨rfl, h1.trans (h2.mono h1.size)⟩
    · have h5 : meetE p = 0 := by unfold meetE; rw [if_pos hok, if_neg hm]
      rw [h5] at HM ⊢
      rw [show decide ((0 : Int) = 0) = true from rfl] at HM
      clear hl hok hm h5
      generalize meetA p = a at *
      generalize meetB p = b at *
      go_enter Try.func18, Try.ntmps18
      go_wp2_with (first
        | (go_at_call 22; refine HV.out.mono ?_; rintro e w1 ⟨rfl, h1⟩)
        | (go_at_call 36; refine (HM.out _ h1).mono ?_; rintro e w2 ⟨rfl, h2⟩))
      go_ret3
      exact ⟨rfl, h1.trans (h2.mono h1.size)⟩
  · have hok' : okProg p = false := by simpa using hok
    rw [hok'] at HV
    have h5 : meetE p = 80 := by unfold meetE; rw [if_neg hok]
    have ha : meetA p = 0 := by unfold meetA; rw [if_neg hok]
    have hb : meetB p = 0 := by unfold meetB; rw [if_neg hok]
    rw [h5, ha, hb]
    clear hl hok hok' h5 ha hb
    go_enter Try.func18, Try.ntmps18
    go_wp2_with (first | (go_at_call 22; refine HV.out.mono ?_; rintro e w1 ⟨rfl, h1⟩))
    go_ret3
    exact ⟨rfl, h1⟩

set_option maxHeartbeats 400000 in
theorem refMeetX_any (p : List Opn) (v : Value) (w : World) (hl : IsProg w v p) (hlen : Narrow p) : Calls Try.prog 19 #[v] w fun e w' => e = .returned (.tuple #[.int .i64 (meetA p), .int .i64 (meetB p), .int .i64 (meetE p)]) ∧ Below w.heap.size w w' := by
  have HV := Lib.hid (refValid_any p v w hl hlen)
  by_cases hok : okProg p = true
  · have HM := Lib.hid (fun w1 (hb : Below w.heap.size w w1) => refMeet_any p v w1 (hl.keeps (Keeps.of_below hb)) hok)
    rw [hok] at HV
    rw [meetV_is hok] at HM
    by_cases hm : meets p = none
    · have h5 : meetE p = 5 := by unfold meetE; rw [if_pos hok, if_pos hm]
      have ha : meetA p = 0 := by unfold meetA; rw [if_pos hok, hm]
      have hb : meetB p = 0 := by unfold meetB; rw [if_pos hok, hm]
      rw [h5, ha, hb] at HM ⊢
      rw [show decide ((5 : Int) = 0) = false from rfl] at HM
      clear hl hok hm h5 ha hb
      go_enter Try.func19, Try.ntmps19
      go_wp2_with (first
        | (go_at_call 17; refine HV.out.mono ?_; rintro e w1 ⟨rfl, h1⟩)
        | (go_at_call 41; refine (HM.out _ h1).mono ?_; rintro e w2 ⟨rfl, h2⟩))
      go_ret3
      exact ⟨rfl, h1.trans (h2.mono h1.size)⟩
    · have h5 : meetE p = 0 := by unfold meetE; rw [if_pos hok, if_neg hm]
      rw [h5] at HM ⊢
      rw [show decide ((0 : Int) = 0) = true from rfl] at HM
      clear hl hok hm h5
      generalize meetA p = a at *
      generalize meetB p = b at *
      go_enter Try.func19, Try.ntmps19
      go_wp2_with (first
        | (go_at_call 17; refine HV.out.mono ?_; rintro e w1 ⟨rfl, h1⟩)
        | (go_at_call 41; refine (HM.out _ h1).mono ?_; rintro e w2 ⟨rfl, h2⟩))
      go_ret3
      exact ⟨rfl, h1.trans (h2.mono h1.size)⟩
  · have hok' : okProg p = false := by simpa using hok
    rw [hok'] at HV
    have h5 : meetE p = 80 := by unfold meetE; rw [if_neg hok]
    have ha : meetA p = 0 := by unfold meetA; rw [if_neg hok]
    have hb : meetB p = 0 := by unfold meetB; rw [if_neg hok]
    rw [h5, ha, hb]
    clear hl hok hok' h5 ha hb
    go_enter Try.func19, Try.ntmps19
    go_wp2_with (first | (go_at_call 17; refine HV.out.mono ?_; rintro e w1 ⟨rfl, h1⟩))
    go_ret3
    exact ⟨rfl, h1⟩
end Go.Proofs.Ytmjdmpapickgkaa
