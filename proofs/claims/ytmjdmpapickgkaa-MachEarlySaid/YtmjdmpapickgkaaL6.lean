import Derived.Test.YtmjdmpapickgkaaL4
import Derived.Test.YtmjdmpapickgkaaN6
import Derived.Deep.QuietTactic
import Derived.BigQuiet
namespace Go.Proofs.Ytmjdmpapickgkaa
open Go.RowKit Go.Kk

set_option maxRecDepth 100000 in
set_option maxHeartbeats 1000000 in
theorem machEarly_out (p : List Opn) (v : Value) (w : World) (hl : IsProg w v p) (hlp : p.length ≤ maxLen) (hls : ∀ o ∈ p, o.src.length ≤ maxLen) (h : wideP p = true ∨ okProg p = false) :
    Calls Try.prog 8 #[v] w fun e w' => e = .returned (.bool true) ∧ Below w.heap.size w w' := by
  have HW := Lib.hid (wide_any p v w hl hlp hls)
  have HS := Lib.hid sane_any
  by_cases hw : wideP p = true
  · rw [hw] at HW
    clear hl hlp hls hw h
    go_enter Try.func8, Try.ntmps8
    go_wp2_with (first
      | (go_at_call 10; refine HW.out.mono ?_; rintro e w1 ⟨rfl, hw1⟩; subst hw1)
      | (go_at_call 11; refine (HS.out _).mono ?_; rintro e w1 ⟨rfl, h1⟩))
    go_ret
    exact ⟨rfl, h1⟩
  · have hw' : wideP p = false := by simpa using hw
    obtain ⟨hn, h60⟩ := not_wide hw'
    rw [hw'] at HW
    have hok : okProg p = false := h.resolve_left hw
    have HV := Lib.hid (refValid_any p v w hl hn)
    rw [hok] at HV
    clear hl hlp hls hw h hw' hn h60 hok
    go_enter Try.func8, Try.ntmps8
    go_wp2_with (first
      | (go_at_call 10; refine HW.out.mono ?_; rintro e w1 ⟨rfl, hw1⟩; subst hw1)
      | (go_at_call 17; refine HV.out.mono ?_; rintro e w2 ⟨rfl, h2⟩)
      | (go_at_call 11; refine (HS.out _).mono ?_; rintro e w3 ⟨rfl, h3⟩))
    go_ret
    exact ⟨rfl, h2.trans (h3.mono h2.size)⟩

set_option maxRecDepth 100000 in
set_option maxHeartbeats 1000000 in
theorem machEarly_wait (p : List Opn) (v : Value) (w : World) (hl : IsProg w v p) (hlp : p.length ≤ maxLen) (hls : ∀ o ∈ p, o.src.length ≤ maxLen) (hw : wideP p = false) (hok : okProg p = true) (hwt : waitL p ≠ []) :
    Calls Try.prog 8 #[v] w fun e w' => e = .returned (.bool true) ∧ Below w.heap.size w w' := by
  have HW := Lib.hid (wide_any p v w hl hlp hls)
  have HS := Lib.hid sane_any
  obtain ⟨hn, h60⟩ := not_wide hw
  rw [hw] at HW
  have HV := Lib.hid (refValid_any p v w hl hn)
  rw [hok] at HV
  have he := readyE_wait hok hwt
  have H29 := Lib.hid (fun w1 (hb : Below w.heap.size w w1) => he ▸ Early_err p v w1 (hl.keeps (Keeps.of_below hb)) hn (by rw [he]; omega))
  have H20 := Lib.hid (fun w1 (hb : Below w.heap.size w w1) => Waits_ok p v w1 (hl.keeps (Keeps.of_below hb)) hok)
  have hpos : 0 < (ints (waitL p)).length := by simp only [ints, List.length_map]; exact List.length_pos_iff.2 hwt
  have hle : (ints (waitL p)).length ≤ 4000 := by have h1 : (waitL p).length ≤ p.length := filter_len (fun i => waitsB (timeOf p) (opn p i)) p.length; have := okProg_len hok; simp only [ints, List.length_map]; omega
  unfold ErrPost at H29
  unfold ListPost at H20
  clear hl hlp hls hw hok hwt hn h60 he
  generalize ints (waitL p) = wl at *
  go_enter Try.func8, Try.ntmps8
  go_wp2_with (first
    | (go_at_call 10; refine HW.out.mono ?_; rintro e w1 ⟨rfl, hw1⟩; subst hw1)
    | (go_at_call 17; refine HV.out.mono ?_; rintro e w2 ⟨rfl, h2⟩)
    | (go_at_call 29; refine (H29.out _ h2).mono ?_; rintro e w3 ⟨rfl, h3⟩; have h3' := h2.trans (h3.mono h2.size))
    | (go_at_call 20; refine (H20.out _ h3').mono ?_; rintro e w4 ⟨v4, rfl, hv4, h4⟩; have h4' := h3'.trans (h4.mono h3'.size); obtain ⟨b4, c4, rfl⟩ := hv4.shape)
    | (go_at_call 11; refine (HS.out _).mono ?_; rintro e w5 ⟨rfl, h5⟩))
  go_ret
  exact ⟨rfl, h4'.trans (h5.mono h4'.size)⟩

set_option maxRecDepth 100000 in
set_option maxHeartbeats 16000000 in
theorem machEarly_ok0 (p : List Opn) (v : Value) (w : World) (hl : IsProg w v p) (hlp : p.length ≤ maxLen) (hls : ∀ o ∈ p, o.src.length ≤ maxLen) (hw : wideP p = false) (hok : okProg p = true) (hwt : waitL p = []) (h0 : p.length = 0) :
    Calls Try.prog 8 #[v] w fun e w' => e = .returned (.bool true) ∧ Below w.heap.size w w' := by
  obtain ⟨bs, cq, hval⟩ := hl.1.shape
  subst hval
  have HW := Lib.hid (wide_any p _ w hl hlp hls)
  have HS := Lib.hid sane_any
  obtain ⟨hn, h60⟩ := not_wide hw
  have h60' := runs_60 h60 hok
  rw [hw] at HW
  have HV := Lib.hid (refValid_any p _ w hl hn)
  rw [hok] at HV
  have H29 := Lib.hid (fun w1 (hb : Below w.heap.size w w1) => Early_ok p _ w1 (hl.keeps (Keeps.of_below hb)) hok hwt h60')
  have H20 := Lib.hid (fun w1 (hb : Below w.heap.size w w1) => Waits_ok p _ w1 (hl.keeps (Keeps.of_below hb)) hok)
  have H20q := Lib.hid Waits_ok
  have H25q := Lib.hid Slack_ok
  have hb0 : (((p.length : Nat) : Int) == 0) = true := beq_iff_eq.2 (by omega)
  clear h0
  rw [hwt, show ints [] = [] from rfl] at H20
  have HP := Lib.hid (And.intro hok (And.intro hwt hl))
  unfold EarlyPost at H29
  unfold ListPost at H20 H20q H25q
  clear hl hlp hls hw hok hwt hn h60
  go_enter Try.func8, Try.ntmps8
  have tok := Lib.hid trivial
  go_wp2_with (first
    | (go_at_call 10; refine HW.out.mono ?_; rintro e w1 ⟨rfl, hw1⟩; subst hw1)
    | (go_at_call 17; refine HV.out.mono ?_; rintro e w2 ⟨rfl, h2⟩)
    | (go_at_call 29; refine (H29.out _ h2).mono ?_; rintro e w3 ⟨v3, q, rfl, hO3, hL3, hE3, h3⟩; have h3' := h2.trans (h3.mono h2.size); obtain ⟨b3, c3, hv3⟩ := (Sl.of_own hO3.row).shape; rw [hL3.len] at hv3; subst hv3; have HQ := Lib.hid (And.intro hO3 (And.intro hL3 hE3)); clear hO3 hL3 hE3)
    | (have _t := tok; go_at_call 20; refine (H20.out _ h3').mono ?_; rintro e w4 ⟨v4, rfl, hv4, h4⟩; have h4' := h3'.trans (h4.mono h3'.size); obtain ⟨b4, c4, rfl⟩ := hv4.shape; rw [show ([] : List Int).length = 0 from rfl]; have hokq := atT_ok HQ.out.2.1 HP.out.1 (fun i hi => by have := HQ.out.2.2 i hi; omega); have hwq := early_waits HQ.out.2.1 HP.out.1 (fun i hi => (HQ.out.2.2 i hi).1); have HQQ := Lib.hid (And.intro hokq hwq); clear tok _t hokq hwq)
    | (go_at_call 20; refine (H20q.out q _ _ ((HQ.out.1.prog).keeps (Keeps.of_below h4)) HQQ.out.1).mono ?_; rintro e w5 ⟨v5, rfl, hv5, h5⟩; have h5' := h4'.trans (h5.mono h4'.size); rw [HQQ.out.2] at hv5; obtain ⟨b5, c5, rfl⟩ := hv5.shape; rw [show (ints []).length = 0 from rfl])
    | (go_at_call 25; refine (H25q.out q _ _ ((HQ.out.1.prog).keeps ((Keeps.of_below h4).trans (Keeps.of_below h5))) HQQ.out.1 HQQ.out.2).mono ?_; rintro e w6 ⟨v6, rfl, hv6, h6⟩; have h6' := h5'.trans (h6.mono h5'.size); obtain ⟨b6, c6, rfl⟩ := hv6.shape; rw [show (slackL q).length = p.length by unfold slackL; rw [List.length_map, HQ.out.2.1.len]])
    | (go_at_call 11; refine (HS.out _).mono ?_; rintro e w7 ⟨rfl, h7⟩))
  go_ret
  exact ⟨rfl, h6'.trans (h7.mono h6'.size)⟩

set_option maxRecDepth 100000 in
set_option maxHeartbeats 16000000 in
theorem machEarly_ok1 (p : List Opn) (v : Value) (w : World) (hl : IsProg w v p) (hlp : p.length ≤ maxLen) (hls : ∀ o ∈ p, o.src.length ≤ maxLen) (hw : wideP p = false) (hok : okProg p = true) (hwt : waitL p = []) (hpos : 0 < p.length) :
    Calls Try.prog 8 #[v] w fun e w' => e = .returned (.bool true) ∧ Below w.heap.size w w' := by
  obtain ⟨bs, cq, hval⟩ := hl.1.shape
  subst hval
  have HW := Lib.hid (wide_any p _ w hl hlp hls)
  have HS := Lib.hid sane_any
  obtain ⟨hn, h60⟩ := not_wide hw
  have h60' := runs_60 h60 hok
  rw [hw] at HW
  have HV := Lib.hid (refValid_any p _ w hl hn)
  rw [hok] at HV
  have H29 := Lib.hid (fun w1 (hb : Below w.heap.size w w1) => Early_ok p _ w1 (hl.keeps (Keeps.of_below hb)) hok hwt h60')
  have H20 := Lib.hid (fun w1 (hb : Below w.heap.size w w1) => Waits_ok p _ w1 (hl.keeps (Keeps.of_below hb)) hok)
  have H20q := Lib.hid Waits_ok
  have H25q := Lib.hid Slack_ok
  have H27 := Lib.hid (fun w1 (hb : Below w.heap.size w w1) => Span_ok p _ w1 (hl.keeps (Keeps.of_below hb)) hok hpos h60')
  have hbd := mn_mx_bd hok hpos
  have hb0 : (((p.length : Nat) : Int) == 0) = false := beq_eq_false_iff_ne.2 (by omega)
  unfold SpanPost at H27
  rw [hwt, show ints [] = [] from rfl] at H20
  have HP := Lib.hid (And.intro hok (And.intro hwt hl))
  unfold EarlyPost at H29
  unfold ListPost at H20 H20q H25q
  clear hl hlp hls hw hok hwt hn h60
  go_enter Try.func8, Try.ntmps8
  have tok := Lib.hid trivial
  go_wp2_with (first
    | (go_at_call 10; refine HW.out.mono ?_; rintro e w1 ⟨rfl, hw1⟩; subst hw1)
    | (go_at_call 17; refine HV.out.mono ?_; rintro e w2 ⟨rfl, h2⟩)
    | (go_at_call 29; refine (H29.out _ h2).mono ?_; rintro e w3 ⟨v3, q, rfl, hO3, hL3, hE3, h3⟩; have h3' := h2.trans (h3.mono h2.size); obtain ⟨b3, c3, hv3⟩ := (Sl.of_own hO3.row).shape; rw [hL3.len] at hv3; subst hv3; have HQ := Lib.hid (And.intro hO3 (And.intro hL3 hE3)); clear hO3 hL3 hE3)
    | (have _t := tok; go_at_call 20; refine (H20.out _ h3').mono ?_; rintro e w4 ⟨v4, rfl, hv4, h4⟩; have h4' := h3'.trans (h4.mono h3'.size); obtain ⟨b4, c4, rfl⟩ := hv4.shape; rw [show ([] : List Int).length = 0 from rfl]; have hokq := atT_ok HQ.out.2.1 HP.out.1 (fun i hi => by have := HQ.out.2.2 i hi; omega); have hwq := early_waits HQ.out.2.1 HP.out.1 (fun i hi => (HQ.out.2.2 i hi).1); have HQQ := Lib.hid (And.intro hokq hwq); clear tok _t hokq hwq)
    | (go_at_call 20; refine (H20q.out q _ _ ((HQ.out.1.prog).keeps (Keeps.of_below h4)) HQQ.out.1).mono ?_; rintro e w5 ⟨v5, rfl, hv5, h5⟩; have h5' := h4'.trans (h5.mono h4'.size); rw [HQQ.out.2] at hv5; obtain ⟨b5, c5, rfl⟩ := hv5.shape; rw [show (ints []).length = 0 from rfl])
    | (go_at_call 25; refine (H25q.out q _ _ ((HQ.out.1.prog).keeps ((Keeps.of_below h4).trans (Keeps.of_below h5))) HQQ.out.1 HQQ.out.2).mono ?_; rintro e w6 ⟨v6, rfl, hv6, h6⟩; have h6' := h5'.trans (h6.mono h5'.size); obtain ⟨b6, c6, rfl⟩ := hv6.shape; rw [show (slackL q).length = p.length by unfold slackL; rw [List.length_map, HQ.out.2.1.len]])
    | (go_at_call 27; refine (H27.out _ h6').mono ?_; rintro e w7 ⟨rfl, h7⟩))
  have h7' := h6'.trans (h7.mono h6'.size)
  have HV7 : Hid (∀ w1, Below w7.heap.size w7 w1 → ∀ k, k < p.length → (∃ g, b3 = some ⟨g, 0, none⟩ ∧ w1.cell? ⟨g, k * 6, none⟩ = some (.int .i64 (theE p k))) ∧ (∃ b off, bs = some ⟨b, off, none⟩ ∧ w1.cell? ⟨b, off + k * 6, none⟩ = some (.int .i64 (timeOf p k))) ∧
      (∃ b off, b6 = some ⟨b, off, none⟩ ∧ w1.cell? ⟨b, off + k, none⟩ = some (.int .i64 (slackI (timeOf q) (opn q k)))) ∧ (slackI (timeOf q) (opn q k) = 0 ∨ (slackI (timeOf q) (opn q k) = -1 ∧ theE p k = 0)) ∧ 0 ≤ theE p k ∧ theE p k ≤ timeOf p k - mnT p p.length ∧ -100000 ≤ timeOf p k ∧ timeOf p k ≤ 100000) := Lib.hid fun w1 hb k hk => by
    have hb3 := (Keeps.of_below h4).trans ((Keeps.of_below h5).trans ((Keeps.of_below h6).trans ((Keeps.of_below h7).trans (Keeps.of_below hb))))
    have hlq := HQ.out.2.1.len
    have hE := fun i hi => (HQ.out.2.2 i hi).1
    obtain ⟨g, cap, hv, _⟩ := HQ.out.1.shape (by omega)
    injection hv with hv1
    subst hv1
    have c1 := (HQ.out.1.time hlq k (by omega) 0).1
    have ht : (q[k]'(by omega)).time = theE p k := by rw [(bare_time (HQ.out.2.1.at' k (by omega))).1]; rfl
    rw [ht] at c1
    obtain ⟨b1, off1, cp1, hv, _, hcl⟩ := Sl.at HP.out.2.2.1 (by omega)
    injection hv with hv1 _ hv3
    obtain ⟨c2, _⟩ := op_cells (hcl.keeps (Keeps.of_below (h7'.trans (hb.mono h7'.size)))) k hk
    have hll : (slackL q).length = p.length := by unfold slackL; rw [List.length_map, hlq]
    obtain ⟨b2, off2, cp2, hv6', _, hcl6⟩ := Sl.at hv6 (by omega)
    injection hv6' with hv61
    have c3 := hcl6 k (.int .i64 (slackI (timeOf q) (opn q k))) (by have := slackL_get q k (by omega); simp [I64, this])
    have hle := early_le HP.out.1 (ready2_of HP.out.1 HP.out.2.1) hE (by omega) k hk
    exact ⟨⟨g, rfl, hb3 _ _ c1⟩, ⟨b1, off1, hv1, by rw [c2]; unfold timeOf; rw [dif_pos hk]⟩, ⟨b2, off2, hv61, (Keeps.of_below h7).trans (Keeps.of_below hb) _ _ c3⟩, early_slack HQ.out.2.1 HP.out.1 hE k hk, hle.1, hle.2, timeOf_bd HP.out.1 k hk⟩
  have HX : Hid (∀ u, Below w7.heap.size w7 u → IsProg u (.slice b3 p.length c3) q ∧ IsProg u (.slice bs p.length cq) p ∧ Below w1.heap.size w1 u) := Lib.hid fun u hb =>
    ⟨HQ.out.1.prog.keeps ((Keeps.of_below h4).trans ((Keeps.of_below h5).trans ((Keeps.of_below h6).trans ((Keeps.of_below h7).trans (Keeps.of_below hb))))), HP.out.2.2.keeps (Keeps.of_below (h7'.trans (hb.mono h7'.size))), h7'.trans (hb.mono h7'.size)⟩
  clear h2 h3 h3' hv4 h4 h4' hv5 h5 h5' hv6 h6 h6' h7 h7'
  generalize mnT p p.length = ma at *
  generalize mxT p p.length = mb at *
  go_loopw [12] (fun vi wr => ∃ k : Nat, k ≤ p.length ∧ vi = .int .i64 k ∧ Below w7.heap.size w7 wr) (fun vi _ => p.length - (intOf vi).toNat)
  case atStart => exact ⟨0, by omega, rfl, Below.refl _ _⟩
  case round =>
    obtain ⟨k, hk, rfl, hbel⟩ := hrel
    by_cases hlt : k < p.length
    · obtain ⟨⟨g, rfl, c1⟩, ⟨b1, off1, rfl, c2⟩, ⟨b2, off2, rfl, c3⟩, hsl, he0, he1, ht0, ht1⟩ := HV7.out wr hbel k hlt
      have hki : (k : Int) < (p.length : Int) := by omega
      generalize slackI (timeOf q) (opn q k) = x at *
      generalize theE p k = en at *
      generalize timeOf p k = t at *
      have y1 : IntKind.i64.wrap (t - ma) = t - ma := IntWalk.i64_in _ (by omega)
      have d1 : decide (en < 0) = false := by simp; omega
      have d2 : decide (t - ma < en) = false := by simp; omega
      rcases hsl with rfl | ⟨rfl, rfl⟩
      · go_wp2
        go_quiet (fail)
        clear y1
        go_wp2
        go_roundw
        case rel => exact ⟨k + 1, by omega, by go_num, below_drewN' hbel _⟩
        case measure => simp [intOf]; omega
      · go_wp2
        go_quiet (fail)
        clear y1
        go_wp2
        go_roundw
        case rel => exact ⟨k + 1, by omega, by go_num, below_drewN' hbel _⟩
        case measure => simp [intOf]; omega
    · obtain rfl : k = p.length := by omega
      have hlq := HQ.out.2.1.len
      have hE := fun i hi => (HQ.out.2.2 i hi).1
      have hsv : ∀ (V : Nat → Int) i, i < p.length → (IsValAt q V i ↔ IsValAt p V i) := fun V i hi => atT_val HQ.out.2.1 V i hi
      have hq60 : q.length ≤ 60 := by omega
      have HIN := Lib.hid (HX.out wr hbel)
      have tok2 := Lib.hid trivial
      rcases runE_two HP.out.1 HP.out.2.1 with hzp | hzp <;> rcases runE_two HQQ.out.1 HQQ.out.2 with hzq | hzq
      · have H12 := Lib.hid (fun u (hb : Below wr.heap.size wr u) => Run_ok p _ u ((HIN.out.2.1).keeps (Keeps.of_below hb)) (runE_zero hzp) h60')
        have H12q := Lib.hid (fun u (hb : Below wr.heap.size wr u) => Run_ok q _ u ((HIN.out.1).keeps (Keeps.of_below hb)) (runE_zero hzq) hq60)
        unfold UntilPost at H12
        unfold UntilPost at H12q
        rw [hlq] at H12q
        have HS2 := Lib.hid (And.intro hsv hlq)
        clear hzp hzq hlq hE hsv hq60
        go_wp2_with (first
          | (have _t := tok2; go_at_call 12; refine (H12.out _ (Below.refl _ _)).mono ?_; rintro e w8 ⟨G8, rfl, hG8, hA8, hs8, h8⟩; clear tok2 _t)
          | (go_at_call 12; refine (H12q.out _ h8).mono ?_; rintro e w9 ⟨G9, rfl, hG9, hA9, hs9, h9⟩; have HI := Lib.hid (And.intro ((hA8.congr (untilV_all HP.out.1)).ints.keeps (Keeps.of_below h9)) (hA9.congr (fun i hi => (untilV_all HQQ.out.1 i (by rw [HS2.out.2]; exact hi)).trans (val_unique HP.out.1 (ready_of HP.out.1 HP.out.2.1) (fun j hj => (HS2.out.1 _ j hj).1 (hs9 j hj).1) (fun j hj => (hs8 j hj).1) i hi))).ints); clear hA8 hA9 hs8 hs9)
          | (go_at_call 16; refine (same_any _ _ _ _ HI.out.1 HI.out.2 (by simp [maxLen]; omega)).mono ?_; rintro e w10 ⟨rfl, h10⟩)
          | (go_at_call 11; refine (HS.out _).mono ?_; rintro e w11 ⟨rfl, h11⟩))
        go_ret
        have k8 := HIN.out.2.2.trans (h8.mono HIN.out.2.2.size)
        have k9 := k8.trans (h9.mono k8.size)
        have k10 := k9.trans (h10.mono k9.size)
        exact ⟨rfl, k10.trans (h11.mono k10.size)⟩
      · have H12 := Lib.hid (fun u (hb : Below wr.heap.size wr u) => Run_ok p _ u ((HIN.out.2.1).keeps (Keeps.of_below hb)) (runE_zero hzp) h60')
        have H12q := Lib.hid (fun u (hb : Below wr.heap.size wr u) => Run_err q _ u ((HIN.out.1).keeps (Keeps.of_below hb)) (okProg_narrow HQQ.out.1) (by rw [hzq]; omega))
        rw [hzq] at H12q
        unfold UntilPost at H12
        unfold ErrPost at H12q
        have HS2 := Lib.hid (And.intro hsv hlq)
        clear hzp hzq hlq hE hsv hq60
        go_wp2_with (first
          | (have _t := tok2; go_at_call 12; refine (H12.out _ (Below.refl _ _)).mono ?_; rintro e w8 ⟨G8, rfl, hG8, hA8, hs8, h8⟩; clear tok2 _t)
          | (go_at_call 12; refine (H12q.out _ h8).mono ?_; rintro e w9 ⟨rfl, h9⟩)
          | (go_at_call 11; refine (HS.out _).mono ?_; rintro e w11 ⟨rfl, h11⟩))
        go_ret
        have k8 := HIN.out.2.2.trans (h8.mono HIN.out.2.2.size)
        have k9 := k8.trans (h9.mono k8.size)
        exact ⟨rfl, k9.trans (h11.mono k9.size)⟩
      · have H12 := Lib.hid (fun u (hb : Below wr.heap.size wr u) => Run_err p _ u ((HIN.out.2.1).keeps (Keeps.of_below hb)) (okProg_narrow HP.out.1) (by rw [hzp]; omega))
        have H12q := Lib.hid (fun u (hb : Below wr.heap.size wr u) => Run_ok q _ u ((HIN.out.1).keeps (Keeps.of_below hb)) (runE_zero hzq) hq60)
        rw [hzp] at H12
        unfold ErrPost at H12
        unfold UntilPost at H12q
        rw [hlq] at H12q
        have HS2 := Lib.hid (And.intro hsv hlq)
        clear hzp hzq hlq hE hsv hq60
        go_wp2_with (first
          | (have _t := tok2; go_at_call 12; refine (H12.out _ (Below.refl _ _)).mono ?_; rintro e w8 ⟨rfl, h8⟩; clear tok2 _t)
          | (go_at_call 12; refine (H12q.out _ h8).mono ?_; rintro e w9 ⟨G9, rfl, hG9, hA9, hs9, h9⟩)
          | (go_at_call 11; refine (HS.out _).mono ?_; rintro e w11 ⟨rfl, h11⟩))
        go_ret
        have k8 := HIN.out.2.2.trans (h8.mono HIN.out.2.2.size)
        have k9 := k8.trans (h9.mono k8.size)
        exact ⟨rfl, k9.trans (h11.mono k9.size)⟩
      · have H12 := Lib.hid (fun u (hb : Below wr.heap.size wr u) => Run_err p _ u ((HIN.out.2.1).keeps (Keeps.of_below hb)) (okProg_narrow HP.out.1) (by rw [hzp]; omega))
        have H12q := Lib.hid (fun u (hb : Below wr.heap.size wr u) => Run_err q _ u ((HIN.out.1).keeps (Keeps.of_below hb)) (okProg_narrow HQQ.out.1) (by rw [hzq]; omega))
        rw [hzp] at H12
        rw [hzq] at H12q
        unfold ErrPost at H12
        unfold ErrPost at H12q
        have HS2 := Lib.hid (And.intro hsv hlq)
        clear hzp hzq hlq hE hsv hq60
        go_wp2_with (first
          | (have _t := tok2; go_at_call 12; refine (H12.out _ (Below.refl _ _)).mono ?_; rintro e w8 ⟨rfl, h8⟩; clear tok2 _t)
          | (go_at_call 12; refine (H12q.out _ h8).mono ?_; rintro e w9 ⟨rfl, h9⟩)
          | (go_at_call 11; refine (HS.out _).mono ?_; rintro e w11 ⟨rfl, h11⟩))
        go_ret
        have k8 := HIN.out.2.2.trans (h8.mono HIN.out.2.2.size)
        have k9 := k8.trans (h9.mono k8.size)
        exact ⟨rfl, k9.trans (h11.mono k9.size)⟩

theorem machEarly_any (p : List Opn) (v : Value) (w : World) (hl : IsProg w v p) (hlp : p.length ≤ maxLen) (hls : ∀ o ∈ p, o.src.length ≤ maxLen) :
    Calls Try.prog 8 #[v] w fun e w' => e = .returned (.bool true) ∧ Below w.heap.size w w' := by
  by_cases hw : wideP p = true
  · exact machEarly_out p v w hl hlp hls (.inl hw)
  have hw' : wideP p = false := by simpa using hw
  by_cases hok : okProg p = true
  · by_cases hwt : waitL p = []
    · by_cases h0 : p.length = 0
      · exact machEarly_ok0 p v w hl hlp hls hw' hok hwt h0
      · exact machEarly_ok1 p v w hl hlp hls hw' hok hwt (by omega)
    · exact machEarly_wait p v w hl hlp hls hw' hok hwt
  · exact machEarly_out p v w hl hlp hls (.inr (by simpa using hok))
end Go.Proofs.Ytmjdmpapickgkaa
