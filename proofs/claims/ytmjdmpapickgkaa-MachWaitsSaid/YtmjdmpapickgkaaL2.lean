import Derived.Test.YtmjdmpapickgkaaZb
namespace Go.Proofs.Ytmjdmpapickgkaa
open Go.RowKit Go.Kk

set_option maxHeartbeats 1000000 in
theorem machWaits_any (p : List Opn) (v : Value) (w : World) (hl : IsProg w v p) (hlp : p.length ≤ maxLen) (hls : ∀ o ∈ p, o.src.length ≤ maxLen) :
    Calls Try.prog 5 #[v] w fun e w' => e = .returned (.bool true) ∧ Below w.heap.size w w' := by
  have HW := Lib.hid (wide_any p v w hl hlp hls)
  have HS := Lib.hid sane_any
  by_cases hw : wideP p = true
  · rw [hw] at HW
    clear hl hlp hls hw
    go_enter Try.func5, Try.ntmps5
    go_wp2_with (first
      | (go_at_call 10; refine HW.out.mono ?_; rintro e w1 ⟨rfl, rfl⟩)
      | (go_at_call 11; refine (HS.out _).mono ?_; rintro e w1 ⟨rfl, h1⟩))
    go_ret
    exact ⟨rfl, h1⟩
  have hw' : wideP p = false := by simpa using hw
  obtain ⟨hn, h60⟩ := not_wide hw'
  rw [hw'] at HW
  have H18 := Lib.hid (fun w1 (hb : Below w.heap.size w w1) => Meet_any p v w1 (hl.keeps (Keeps.of_below hb)) hn)
  have H19 := Lib.hid (fun w1 (hb : Below w.heap.size w w1) => refMeetX_any p v w1 (hl.keeps (Keeps.of_below hb)) hn)
  have H22 := Lib.hid (fun w1 (hb : Below w.heap.size w w1) => valid_any p v w1 (hl.keeps (Keeps.of_below hb)) hn)
  have H17 := Lib.hid (fun w1 (hb : Below w.heap.size w w1) => refValid_any p v w1 (hl.keeps (Keeps.of_below hb)) hn)
  obtain ⟨l, er, hll, H20, H21⟩ : ∃ (l : List Int) (er : Int), l.length ≤ maxLen ∧ Hid (∀ w1, Below w.heap.size w w1 → Calls Try.prog 20 #[v] w1 (ListPost l er w1)) ∧ Hid (∀ w1, Below w.heap.size w w1 → Calls Try.prog 21 #[v] w1 (ListPost l er w1)) := by
    by_cases hok : okProg p = true
    · refine ⟨ints (waitL p), 0, ?_, Lib.hid fun w1 hb => Waits_ok p v w1 (hl.keeps (Keeps.of_below hb)) hok, Lib.hid fun w1 hb => refWaits_ok p v w1 (hl.keeps (Keeps.of_below hb)) hok⟩
      have h1 : (waitL p).length ≤ p.length := filter_len (fun i => waitsB (timeOf p) (opn p i)) p.length
      simp only [ints, List.length_map]
      omega
    · have hok' : okProg p = false := by simpa using hok
      exact ⟨[], 80, by simp, Lib.hid fun w1 hb => Waits_bad p v w1 (hl.keeps (Keeps.of_below hb)) hn hok', Lib.hid fun w1 hb => refWaits_bad p v w1 (hl.keeps (Keeps.of_below hb)) hn hok'⟩
  unfold ListPost at H20 H21
  clear hl hlp hls hw hw' hn h60
  generalize meetA p = ma at *
  generalize meetB p = mb at *
  generalize meetE p = me at *
  generalize okProg p = ok at *
  have HLL := Lib.hid hll
  clear hll
  go_enter Try.func5, Try.ntmps5
  go_wp2_with (first
    | (go_at_call 10; refine HW.out.mono ?_; rintro e w1 ⟨rfl, hw1⟩; subst hw1)
    | (go_at_call 18; refine (H18.out _ (Below.refl _ _)).mono ?_; rintro e w1 ⟨rfl, h1⟩)
    | (go_at_call 19; refine (H19.out _ h1).mono ?_; rintro e w2 ⟨rfl, h2⟩; have h2' := h1.trans (h2.mono h1.size))
    | (go_at_call 20; refine (H20.out _ h2').mono ?_; rintro e w3 ⟨v3, rfl, hv3, h3⟩; have h3' := h2'.trans (h3.mono h2'.size))
    | (go_at_call 21; refine (H21.out _ h3').mono ?_; rintro e w4 ⟨v4, rfl, hv4, h4⟩; have h4' := h3'.trans (h4.mono h3'.size); have HV := Lib.hid (And.intro (hv3.keeps (Keeps.of_below h4)) hv4); clear hv3 hv4)
    | (go_at_call 22; refine (H22.out _ h4').mono ?_; rintro e w5 ⟨rfl, h5⟩; have h5' := h4'.trans (h5.mono h4'.size))
    | (go_at_call 17; refine (H17.out _ h5').mono ?_; rintro e w6 ⟨rfl, h6⟩; have h6' := h5'.trans (h6.mono h5'.size); have HV6 := Lib.hid (And.intro (HV.out.1.keeps ((Keeps.of_below h5).trans (Keeps.of_below h6))) (HV.out.2.keeps ((Keeps.of_below h5).trans (Keeps.of_below h6)))))
    | (go_at_call 16; refine (same_any l _ _ _ HV6.out.1 HV6.out.2 HLL.out).mono ?_; rintro e w7 ⟨rfl, h7⟩; have h7' := h6'.trans (h7.mono h6'.size))
    | (go_at_call 11; refine (HS.out _).mono ?_; rintro e w8 ⟨rfl, h8⟩))
  go_ret
  exact ⟨rfl, h7'.trans (h8.mono h7'.size)⟩
end Go.Proofs.Ytmjdmpapickgkaa
