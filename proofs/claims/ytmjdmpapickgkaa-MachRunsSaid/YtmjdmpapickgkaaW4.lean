import Derived.Test.YtmjdmpapickgkaaW3
namespace Go.Proofs.Ytmjdmpapickgkaa
open Go.RowKit Go.Kk

def readyE (p : List Opn) : Int := if okProg p = true then (if (waitL p).length = 0 then 0 else 82) else 80

set_option maxHeartbeats 1000000 in
theorem ready_any (p : List Opn) (v : Value) (w : World) (hl : IsProg w v p) (hlen : Narrow p) : Calls Try.prog 37 #[v] w fun e w' => e = .returned (.int .i64 (readyE p)) ∧ Below w.heap.size w w' := by
  by_cases hok : okProg p = true
  · have HW := Lib.hid (Waits_ok p v w hl hok)
    have hll : (ints (waitL p)).length = (waitL p).length := by simp [ints]
    by_cases h0 : (waitL p).length = 0
    · have hr : readyE p = 0 := by unfold readyE; rw [if_pos hok, if_pos h0]
      rw [hr]
      have HH := Lib.hid (hll.trans h0)
      clear hl hok hll h0 hr
      go_enter Try.func37, Try.ntmps37
      go_wp2_with (go_at_call 20; refine HW.out.mono ?_; rintro e w1 ⟨v', rfl, hv, h1⟩; obtain ⟨bv, cv, rfl⟩ := hv.shape; rw [HH.out])
      go_ret
      exact ⟨rfl, h1⟩
    · have hr : readyE p = 82 := by unfold readyE; rw [if_pos hok, if_neg h0]
      rw [hr]
      have hpos : 0 < (ints (waitL p)).length := by omega
      have hle : (ints (waitL p)).length ≤ 4000 := by have h1 : (waitL p).length ≤ p.length := filter_len (fun i => waitsB (timeOf p) (opn p i)) p.length; have := okProg_len hok; omega
      have HH := Lib.hid h0
      clear hl hok hll h0 hr
      go_enter Try.func37, Try.ntmps37
      go_wp2_with (go_at_call 20; refine HW.out.mono ?_; rintro e w1 ⟨v', rfl, hv, h1⟩; obtain ⟨bv, cv, rfl⟩ := hv.shape)
      go_ret
      exact ⟨rfl, h1⟩
  · have HW := Lib.hid (Waits_bad p v w hl hlen (by simpa using hok))
    have hr : readyE p = 80 := by unfold readyE; rw [if_neg hok]
    rw [hr]
    clear hl hok hr
    go_enter Try.func37, Try.ntmps37
    go_wp2_with (go_at_call 20; refine HW.out.mono ?_; rintro e w1 ⟨v', rfl, hv, h1⟩; obtain ⟨bv, cv, rfl⟩ := hv.shape; rw [show ([] : List Int).length = 0 from rfl])
    go_ret
    exact ⟨rfl, h1⟩
end Go.Proofs.Ytmjdmpapickgkaa
