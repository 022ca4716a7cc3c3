import Derived.Test.YtlelbkljhbkjdaaB9
namespace Go.Proofs.Ytlelbkljhbkjdaa
open Go.RowKit Go.Kk

/-- how many loose bytes of a disk a loss of power leaves -/
def cn (S : St) (kp : Nat → Int) (d : Nat) : Nat := min (max (kp d) 0).toNat (S.lo d).length
/-- the state when the first k disks have lost what they lose -/
def partC (S : St) (kp : Nat → Int) (k : Nat) : St :=
  { S with sf := fun d => if d < k then S.sf d ++ (S.lo d).take (cn S kp d) else S.sf d, lo := fun d => if d < k then [] else S.lo d }
theorem partC_succ (S : St) (kp : Nat → Int) (k : Nat) : partC S kp (k + 1) = { partC S kp k with sf := upd (partC S kp k).sf k (S.sf k ++ (S.lo k).take (cn S kp k)), lo := upd (partC S kp k).lo k [] } := by
  unfold partC upd
  simp only [St.mk.injEq, and_true]
  constructor
  · funext d
    by_cases h : d = k
    · simp [h]
    · by_cases h2 : d < k
      · simp [h, h2]; omega
      · simp [h, h2]; omega
  · funext d
    by_cases h : d = k
    · simp [h]
    · by_cases h2 : d < k
      · simp [h, h2]; omega
      · simp [h, h2]; omega
theorem partC_same (S : St) (kp : Nat → Int) (k : Nat) : (partC S kp k).sf k = S.sf k ∧ (partC S kp k).lo k = S.lo k := by simp [partC]
def crashS (S : St) (kp : Nat → Int) : St := { partC S kp 3 with down := false, armed := 0 }

theorem Sb.take {w : World} {base : Option Addr} {cap : Nat} {bs : List UInt8} (h : Sb w (.slice base bs.length cap) bs) (m : Nat) (hm : m ≤ bs.length) : Sb w (.slice base m cap) (bs.take m) := by
  have hl : (bs.take m).length = m := by rw [List.length_take]; omega
  rcases h with ⟨hv, rfl⟩ | ⟨g, off, cap', c, fr, hv, hc, hg, hx⟩
  · obtain rfl : m = 0 := by simpa using hm
    injection hv with h1 h2 h3
    subst h1; subst h3
    exact .inl ⟨rfl, rfl⟩
  · injection hv with h1 h2 h3
    subst h1; subst h3
    refine .inr ⟨g, off, cap, c, fr, by rw [hl], by omega, hg, fun j u hu => ?_⟩
    rw [B8_take, List.getElem?_take] at hu
    split at hu
    · exact hx j u hu
    · cases hu
theorem Sb.cap_le {w : World} {base : Option Addr} {n cap : Nat} {bs : List UInt8} (h : Sb w (.slice base n cap) bs) : n = bs.length ∧ n ≤ cap := by
  rcases h with ⟨hv, rfl⟩ | ⟨g, off, cap', c, fr, hv, hc, hg, hx⟩
  · injection hv with h1 h2 h3; subst h2; subst h3; simp
  · injection hv with h1 h2 h3; subst h2; subst h3; exact ⟨rfl, hc⟩
theorem run_slice_to (w : World) (base : Option Addr) (n cap m : Nat) (hm : m ≤ cap) : (Instr.slice 27 (.slice base n cap) none (some (.int .i64 m)) none).run Try.prog w = .ok (.slice base m cap) w := by
  have h27 : Try.prog.underlying 27 = some (.slice 5) := by kernel_rfl
  obtain ⟨i, hi, _, h1, _⟩ := info_parts (show (Try.prog.info? 5).map (fun i => (i.zero, i.size, i.bytes)) = some (some (.int .u8 0), 1, 1) by kernel_rfl)
  cases base with
  | none => simp [Instr.slice, run_underlying h27, Instr.sliceBounds, Instr.sliceBound, asIntOf, sizeOf, typeInfo, hi, hm]
  | some a => simp [Instr.slice, run_underlying h27, Instr.sliceBounds, Instr.sliceBound, asIntOf, sizeOf, typeInfo, hi, hm, Addr.add]

set_option maxHeartbeats 1000000 in
theorem crash_any {w : World} {R D : Nat} {S : St} (h : RackIs w R D S) (kp : Nat → Int) :
    Calls Try.prog 14 #[.pointer (some ⟨R, 0, none⟩), .agg #[.int .i64 (kp 0), .int .i64 (kp 1), .int .i64 (kp 2)]] w fun e w' => e = .returned (.tuple #[]) ∧ RackIs w' R D (crashS S kp) ∧ Fr (fun k => k = R ∨ k = D) w w' := by
  have hal := fun x => h.below (below_alloc w x)
  have hix : ∀ (d : Nat), d < 3 → ∀ w, (Instr.index 29 (.agg #[.int .i64 (kp 0), .int .i64 (kp 1), .int .i64 (kp 2)]) (.int .i64 d)).run Try.prog w = .ok (.int .i64 (kp d)) w := by
    intro d hd w
    obtain rfl | rfl | rfl : d = 0 ∨ d = 1 ∨ d = 2 := by omega
    · kernel_rfl
    · kernel_rfl
    · kernel_rfl
  have HIX := Lib.hid hix
  clear hix
  go_enter Try.func14, Try.ntmps14
  go_wp2_with (first | (go_at_call 32; refine (none_any (hal _)).mono ?_; rintro e w1 ⟨rfl, rfl⟩))
  go_loopw [10] (fun i wr => ∃ k : Nat, k ≤ 3 ∧ i = .int .i64 k ∧ RackIs wr R D (partC S kp k) ∧ Fr (fun k => k = R ∨ k = D) w wr) (fun i _ => 3 - (intOf i).toNat)
  case atStart =>
    refine ⟨0, by omega, rfl, ?_, Fr.of_below (below_alloc _ _)⟩
    have e : partC S kp 0 = S := by simp [partC]
    rw [e]
    exact hal _
  case round =>
    obtain ⟨k, hk, rfl, hr, hf⟩ := hrel
    obtain ⟨life, hR⟩ := hr.rack
    have c0 := cell_of_heap (i := 0) hR rfl
    by_cases hlt : k < 3
    · obtain ⟨cs, v1, v2, hD, g1, g2, hsz, hx, hy⟩ := hr.at hlt
      rw [(partC_same S kp k).1] at hx
      rw [(partC_same S kp k).2] at hy
      have hbd := h.bound k hlt
      obtain ⟨b1, k1, rfl⟩ := hx.shape
      obtain ⟨b2, k2, rfl⟩ := hy.shape
      have cA := cell_of_heap hD g1
      have cB := cell_of_heap hD g2
      have hcap := hy.cap_le.2
      have hi := HIX.out k hlt
      generalize hn : kp k = n at hi
      have HN := Lib.hid hn
      clear hR hn hal
      rcases (by omega : n < 0 ∨ n = 0 ∨ (0 < n ∧ n < (S.lo k).length) ∨ (0 < n ∧ n = (S.lo k).length) ∨ (0 < n ∧ ((S.lo k).length : Int) < n)) with h1 | rfl | ⟨h1, h2⟩ | ⟨h1, rfl⟩ | ⟨h1, h2⟩
      · have hm : 0 ≤ (S.lo k).length := by omega
        have hcn : cn S kp k = 0 := by unfold cn; rw [HN.out]; omega
        have hsl := fun w => run_slice_to w b2 (S.lo k).length k2 (0) (by omega)
        have hyt := hy.take (0) hm
        have hlt2 : ((S.lo k).take (0)).length = 0 := by rw [List.length_take]; omega
        have hys := hyt.sl
        rw [hlt2] at hys
        have hxs := hx.sl
        have fA := frozen_of_heap (i := k * 2) hD
        have fB := frozen_of_heap (i := k * 2 + 1) hD
        have HD := Lib.hid hD
        have HLT := Lib.hid hlt2
        have hps := partC_succ S kp k
        rw [hcn] at hps
        have HPS := Lib.hid hps
        have hDs := heap_lt hD
        clear hD hlt2 hcn hps
        go_wp2
        go_region_with ((go_at_call 27; refine (concat2 _ _ _ _ _ _ _ _ _ _ (new0 _ _ _ _) (new1 _ _ _ _) (hxs.keeps (keeps_new _ _)) (hys.keeps (keeps_new _ _)) (B8_one _) (B8_one _) (by omega)).mono ?_; rintro e w1 ⟨v, rfl, hown, hbel⟩; obtain ⟨b3, c3, rfl⟩ := (Sl.of_own hown).shape; have hb1 := below_of_new hbel; have q1 := (hb1.cell (p := ⟨D, k * 2, none⟩) hDs).trans cA; have q2 := (hb1.cell (p := ⟨D, k * 2 + 1, none⟩) hDs).trans cB; have q3 := (hb1.frozen (p := ⟨D, k * 2, none⟩) hDs).trans fA; have q4 := (hb1.frozen (p := ⟨D, k * 2 + 1, none⟩) hDs).trans fB))
        all_goals
          rw [← B8_append] at hown
          obtain ⟨ha, hb, hc⟩ := two_sets (u := Value.slice b3 ((S.sf k).length + 0) c3) (v := .slice none 0 0) (i := k * 2) (j := k * 2 + 1) (Fr.refl _ w1) ((hb1.block D hDs).trans HD.out) (Sb.of_own hown)
          have hr5 := (hr.below hb1).ofD ha hlt ((hb1.block D hDs).trans HD.out) hb hc (Sb.nil _) (by rw [List.length_append, HLT.out, List.length_nil]; omega)
          have hf5 := (hf.trans (Fr.of_below hb1)).trans (ha.mono (T := fun k => k = R ∨ k = D) fun k hk => .inr hk)
          clear q1 q2 q3 q4 ha hb hc hb1 hbel hown
          go_wp2
          go_roundw
          case rel => exact ⟨k + 1, by omega, by go_num, by rw [HPS.out]; exact hr5, hf5⟩
          case measure => simp [intOf]; omega
      · have hm : 0 ≤ (S.lo k).length := by omega
        have hcn : cn S kp k = 0 := by unfold cn; rw [HN.out]; omega
        have hsl := fun w => run_slice_to w b2 (S.lo k).length k2 (0) (by omega)
        have hyt := hy.take (0) hm
        have hlt2 : ((S.lo k).take (0)).length = 0 := by rw [List.length_take]; omega
        have hys := hyt.sl
        rw [hlt2] at hys
        have hxs := hx.sl
        have fA := frozen_of_heap (i := k * 2) hD
        have fB := frozen_of_heap (i := k * 2 + 1) hD
        have HD := Lib.hid hD
        have HLT := Lib.hid hlt2
        have hps := partC_succ S kp k
        rw [hcn] at hps
        have HPS := Lib.hid hps
        have hDs := heap_lt hD
        clear hD hlt2 hcn hps
        go_wp2
        go_region_with ((go_at_call 27; refine (concat2 _ _ _ _ _ _ _ _ _ _ (new0 _ _ _ _) (new1 _ _ _ _) (hxs.keeps (keeps_new _ _)) (hys.keeps (keeps_new _ _)) (B8_one _) (B8_one _) (by omega)).mono ?_; rintro e w1 ⟨v, rfl, hown, hbel⟩; obtain ⟨b3, c3, rfl⟩ := (Sl.of_own hown).shape; have hb1 := below_of_new hbel; have q1 := (hb1.cell (p := ⟨D, k * 2, none⟩) hDs).trans cA; have q2 := (hb1.cell (p := ⟨D, k * 2 + 1, none⟩) hDs).trans cB; have q3 := (hb1.frozen (p := ⟨D, k * 2, none⟩) hDs).trans fA; have q4 := (hb1.frozen (p := ⟨D, k * 2 + 1, none⟩) hDs).trans fB))
        all_goals
          rw [← B8_append] at hown
          obtain ⟨ha, hb, hc⟩ := two_sets (u := Value.slice b3 ((S.sf k).length + 0) c3) (v := .slice none 0 0) (i := k * 2) (j := k * 2 + 1) (Fr.refl _ w1) ((hb1.block D hDs).trans HD.out) (Sb.of_own hown)
          have hr5 := (hr.below hb1).ofD ha hlt ((hb1.block D hDs).trans HD.out) hb hc (Sb.nil _) (by rw [List.length_append, HLT.out, List.length_nil]; omega)
          have hf5 := (hf.trans (Fr.of_below hb1)).trans (ha.mono (T := fun k => k = R ∨ k = D) fun k hk => .inr hk)
          clear q1 q2 q3 q4 ha hb hc hb1 hbel hown
          go_wp2
          go_roundw
          case rel => exact ⟨k + 1, by omega, by go_num, by rw [HPS.out]; exact hr5, hf5⟩
          case measure => simp [intOf]; omega
      · obtain ⟨m, rfl⟩ : ∃ m : Nat, n = m := ⟨n.toNat, by omega⟩
        have hm : m ≤ (S.lo k).length := by omega
        have hcn : cn S kp k = m := by unfold cn; rw [HN.out]; omega
        have hsl := fun w => run_slice_to w b2 (S.lo k).length k2 (m) (by omega)
        have hyt := hy.take (m) hm
        have hlt2 : ((S.lo k).take (m)).length = m := by rw [List.length_take]; omega
        have hys := hyt.sl
        rw [hlt2] at hys
        have hxs := hx.sl
        have fA := frozen_of_heap (i := k * 2) hD
        have fB := frozen_of_heap (i := k * 2 + 1) hD
        have HD := Lib.hid hD
        have HLT := Lib.hid hlt2
        have hps := partC_succ S kp k
        rw [hcn] at hps
        have HPS := Lib.hid hps
        have hDs := heap_lt hD
        clear hD hlt2 hcn hps
        go_wp2
        go_region_with ((go_at_call 27; refine (concat2 _ _ _ _ _ _ _ _ _ _ (new0 _ _ _ _) (new1 _ _ _ _) (hxs.keeps (keeps_new _ _)) (hys.keeps (keeps_new _ _)) (B8_one _) (B8_one _) (by omega)).mono ?_; rintro e w1 ⟨v, rfl, hown, hbel⟩; obtain ⟨b3, c3, rfl⟩ := (Sl.of_own hown).shape; have hb1 := below_of_new hbel; have q1 := (hb1.cell (p := ⟨D, k * 2, none⟩) hDs).trans cA; have q2 := (hb1.cell (p := ⟨D, k * 2 + 1, none⟩) hDs).trans cB; have q3 := (hb1.frozen (p := ⟨D, k * 2, none⟩) hDs).trans fA; have q4 := (hb1.frozen (p := ⟨D, k * 2 + 1, none⟩) hDs).trans fB))
        all_goals
          rw [← B8_append] at hown
          obtain ⟨ha, hb, hc⟩ := two_sets (u := Value.slice b3 ((S.sf k).length + m) c3) (v := .slice none 0 0) (i := k * 2) (j := k * 2 + 1) (Fr.refl _ w1) ((hb1.block D hDs).trans HD.out) (Sb.of_own hown)
          have hr5 := (hr.below hb1).ofD ha hlt ((hb1.block D hDs).trans HD.out) hb hc (Sb.nil _) (by rw [List.length_append, HLT.out, List.length_nil]; omega)
          have hf5 := (hf.trans (Fr.of_below hb1)).trans (ha.mono (T := fun k => k = R ∨ k = D) fun k hk => .inr hk)
          clear q1 q2 q3 q4 ha hb hc hb1 hbel hown
          go_wp2
          go_roundw
          case rel => exact ⟨k + 1, by omega, by go_num, by rw [HPS.out]; exact hr5, hf5⟩
          case measure => simp [intOf]; omega
      · have hm : (S.lo k).length ≤ (S.lo k).length := by omega
        have hcn : cn S kp k = (S.lo k).length := by unfold cn; rw [HN.out]; omega
        have hsl := fun w => run_slice_to w b2 (S.lo k).length k2 ((S.lo k).length) (by omega)
        have hyt := hy.take ((S.lo k).length) hm
        have hlt2 : ((S.lo k).take ((S.lo k).length)).length = (S.lo k).length := by rw [List.length_take]; omega
        have hys := hyt.sl
        rw [hlt2] at hys
        have hxs := hx.sl
        have fA := frozen_of_heap (i := k * 2) hD
        have fB := frozen_of_heap (i := k * 2 + 1) hD
        have HD := Lib.hid hD
        have HLT := Lib.hid hlt2
        have hps := partC_succ S kp k
        rw [hcn] at hps
        have HPS := Lib.hid hps
        have hDs := heap_lt hD
        clear hD hlt2 hcn hps
        go_wp2
        go_region_with ((go_at_call 27; refine (concat2 _ _ _ _ _ _ _ _ _ _ (new0 _ _ _ _) (new1 _ _ _ _) (hxs.keeps (keeps_new _ _)) (hys.keeps (keeps_new _ _)) (B8_one _) (B8_one _) (by omega)).mono ?_; rintro e w1 ⟨v, rfl, hown, hbel⟩; obtain ⟨b3, c3, rfl⟩ := (Sl.of_own hown).shape; have hb1 := below_of_new hbel; have q1 := (hb1.cell (p := ⟨D, k * 2, none⟩) hDs).trans cA; have q2 := (hb1.cell (p := ⟨D, k * 2 + 1, none⟩) hDs).trans cB; have q3 := (hb1.frozen (p := ⟨D, k * 2, none⟩) hDs).trans fA; have q4 := (hb1.frozen (p := ⟨D, k * 2 + 1, none⟩) hDs).trans fB))
        all_goals
          rw [← B8_append] at hown
          obtain ⟨ha, hb, hc⟩ := two_sets (u := Value.slice b3 ((S.sf k).length + (S.lo k).length) c3) (v := .slice none 0 0) (i := k * 2) (j := k * 2 + 1) (Fr.refl _ w1) ((hb1.block D hDs).trans HD.out) (Sb.of_own hown)
          have hr5 := (hr.below hb1).ofD ha hlt ((hb1.block D hDs).trans HD.out) hb hc (Sb.nil _) (by rw [List.length_append, HLT.out, List.length_nil]; omega)
          have hf5 := (hf.trans (Fr.of_below hb1)).trans (ha.mono (T := fun k => k = R ∨ k = D) fun k hk => .inr hk)
          clear q1 q2 q3 q4 ha hb hc hb1 hbel hown
          go_wp2
          go_roundw
          case rel => exact ⟨k + 1, by omega, by go_num, by rw [HPS.out]; exact hr5, hf5⟩
          case measure => simp [intOf]; omega
      · have hm : (S.lo k).length ≤ (S.lo k).length := by omega
        have hcn : cn S kp k = (S.lo k).length := by unfold cn; rw [HN.out]; omega
        have hsl := fun w => run_slice_to w b2 (S.lo k).length k2 ((S.lo k).length) (by omega)
        have hyt := hy.take ((S.lo k).length) hm
        have hlt2 : ((S.lo k).take ((S.lo k).length)).length = (S.lo k).length := by rw [List.length_take]; omega
        have hys := hyt.sl
        rw [hlt2] at hys
        have hxs := hx.sl
        have fA := frozen_of_heap (i := k * 2) hD
        have fB := frozen_of_heap (i := k * 2 + 1) hD
        have HD := Lib.hid hD
        have HLT := Lib.hid hlt2
        have hps := partC_succ S kp k
        rw [hcn] at hps
        have HPS := Lib.hid hps
        have hDs := heap_lt hD
        clear hD hlt2 hcn hps
        go_wp2
        go_region_with ((go_at_call 27; refine (concat2 _ _ _ _ _ _ _ _ _ _ (new0 _ _ _ _) (new1 _ _ _ _) (hxs.keeps (keeps_new _ _)) (hys.keeps (keeps_new _ _)) (B8_one _) (B8_one _) (by omega)).mono ?_; rintro e w1 ⟨v, rfl, hown, hbel⟩; obtain ⟨b3, c3, rfl⟩ := (Sl.of_own hown).shape; have hb1 := below_of_new hbel; have q1 := (hb1.cell (p := ⟨D, k * 2, none⟩) hDs).trans cA; have q2 := (hb1.cell (p := ⟨D, k * 2 + 1, none⟩) hDs).trans cB; have q3 := (hb1.frozen (p := ⟨D, k * 2, none⟩) hDs).trans fA; have q4 := (hb1.frozen (p := ⟨D, k * 2 + 1, none⟩) hDs).trans fB))
        all_goals
          rw [← B8_append] at hown
          obtain ⟨ha, hb, hc⟩ := two_sets (u := Value.slice b3 ((S.sf k).length + (S.lo k).length) c3) (v := .slice none 0 0) (i := k * 2) (j := k * 2 + 1) (Fr.refl _ w1) ((hb1.block D hDs).trans HD.out) (Sb.of_own hown)
          have hr5 := (hr.below hb1).ofD ha hlt ((hb1.block D hDs).trans HD.out) hb hc (Sb.nil _) (by rw [List.length_append, HLT.out, List.length_nil]; omega)
          have hf5 := (hf.trans (Fr.of_below hb1)).trans (ha.mono (T := fun k => k = R ∨ k = D) fun k hk => .inr hk)
          clear q1 q2 q3 q4 ha hb hc hb1 hbel hown
          go_wp2
          go_roundw
          case rel => exact ⟨k + 1, by omega, by go_num, by rw [HPS.out]; exact hr5, hf5⟩
          case measure => simp [intOf]; omega
    · obtain rfl : k = 3 := by omega
      have f1 := frozen_of_heap (i := 1) hR
      have f2 := frozen_of_heap (i := 2) hR
      have f3 := frozen_of_heap (i := 3) hR
      have c1 := cell_of_heap (i := 1) hR rfl
      have c2 := cell_of_heap (i := 2) hR rfl
      have c3 := cell_of_heap (i := 3) hR rfl
      go_wp2
      go_end0
      have hf2 := (((Fr.refl (· = R) wr).setCell (a := ⟨R, 1, none⟩) rfl (.int .i64 0)).setCell (a := ⟨R, 2, none⟩) rfl (.bool false)).setCell (a := ⟨R, 3, none⟩) rfl (.int .i64 (wrap64 (life + 1)))
      exact ⟨rfl, hr.ofR hf2 (hset_same _ (hset_same _ (hset_same _ hR))) (by omega), hf.trans (hf2.mono fun k hk => .inl hk)⟩
end Go.Proofs.Ytlelbkljhbkjdaa
