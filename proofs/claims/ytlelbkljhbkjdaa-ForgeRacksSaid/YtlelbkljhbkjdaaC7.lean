import Derived.Test.YtlelbkljhbkjdaaC6
namespace Go.Proofs.Ytlelbkljhbkjdaa
open Go.RowKit Go.Kk

theorem take_app {α : Type} (a b : List α) (m : Nat) : (a ++ b).take (a.length + m) = a ++ b.take m := by
  rw [List.take_append, List.take_of_length_le (by omega)]
  congr 2
  omega

set_option maxHeartbeats 1000000 in
theorem rcrash_any {w : World} {M : Nat} {S : St} (h : RefIs w M S) (kp : Nat → Int) :
    Calls Try.prog 15 #[.pointer (some ⟨M, 0, none⟩), .agg #[.int .i64 (kp 0), .int .i64 (kp 1), .int .i64 (kp 2)]] w fun e w' => e = .returned (.tuple #[]) ∧ RefIs w' M (crashS S kp) ∧ Fr (· = M) w w' := by
  have hal := fun x => h.below (below_alloc w x)
  have hMw : M < w.heap.size := heap_lt (h.at (d := 0) (by omega)).choose_spec.choose_spec.1
  have hke : ∀ d, d < 3 → (w.alloc (.cells #[.int .i64 (kp 0), .int .i64 (kp 1), .int .i64 (kp 2)] 29)).cell? ⟨w.heap.size, d, none⟩ = some (.int .i64 (kp d)) := by
    intro d hd
    obtain rfl | rfl | rfl : d = 0 ∨ d = 1 ∨ d = 2 := by omega
    · exact newA _ _ _ _ _ _ rfl rfl
    · exact newA _ _ _ _ _ _ rfl rfl
    · exact newA _ _ _ _ _ _ rfl rfl
  have HKE := Lib.hid hke
  clear hke
  go_enter Try.func15, Try.ntmps15
  go_wp2
  go_loopw [4] (fun i wr => ∃ k : Nat, k ≤ 3 ∧ i = .int .i64 k ∧ RefIs wr M (partC S kp k) ∧ Fr (· = M) (w.alloc (.cells #[.int .i64 (kp 0), .int .i64 (kp 1), .int .i64 (kp 2)] 29)) wr) (fun i _ => 3 - (intOf i).toNat)
  case atStart =>
    refine ⟨0, by omega, rfl, ?_, Fr.refl _ _⟩
    have e : partC S kp 0 = S := by simp [partC]
    rw [e]
    exact hal _
  case round =>
    obtain ⟨k, hk, rfl, hr, hf⟩ := hrel
    by_cases hlt : k < 3
    · obtain ⟨cs, dv, hM, g1, g2, _, _, hsz, hdv⟩ := hr.at hlt
      rw [(partC_same S kp k).1] at hdv g2
      rw [(partC_same S kp k).2] at hdv
      have hbd := h.bound k hlt
      have hlti : (k : Int) < 3 := by omega
      have ck := hf.cell (HKE.out k hlt) (by show ¬ (w.heap.size = M); omega)
      obtain ⟨b1, k1, rfl⟩ := hdv.shape
      have c1 := cell_of_heap hM g1
      have c2 := cell_of_heap hM g2
      have f1 := frozen_of_heap (i := k) hM
      have f2 := frozen_of_heap (i := 3 + k) hM
      have HM := Lib.hid hM
      have hMs := heap_lt hM
      have hps := partC_succ S kp k
      have hcn : cn S kp k = min (max (kp k) 0).toNat (S.lo k).length := rfl
      generalize hn : kp k = n at ck hcn
      have hxl : (S.sf k ++ S.lo k).length = (S.sf k).length + (S.lo k).length := List.length_append
      rw [hxl] at hdv c1 g1
      have htake : (S.sf k ++ S.lo k).take ((S.sf k).length + cn S kp k) = S.sf k ++ (S.lo k).take (cn S kp k) := take_app _ _ _
      generalize hm : cn S kp k = m at hcn htake hps
      have HX := Lib.hid hxl
      have HT := Lib.hid htake
      have HPS := Lib.hid hps
      have hcp : (S.sf k).length + (S.lo k).length ≤ k1 := hdv.cap_le.2
      have hdv2 : Sb wr (.slice b1 (S.sf k ++ S.lo k).length k1) (S.sf k ++ S.lo k) := by rw [hxl]; exact hdv
      have hyt := hdv2.take ((S.sf k).length + m) (by rw [hxl]; omega)
      rw [htake] at hyt
      have hys := hyt.sl
      have htl : (S.sf k ++ (S.lo k).take m).length = (S.sf k).length + m := by rw [List.length_append, List.length_take]; omega
      rw [htl] at hys
      have HTL := Lib.hid htl
      have HSB := Lib.hid hyt
      clear hM hn hal hps hxl htake hm htl hyt hdv hdv2 g1 g2
      have hown := (World.ownsRow_made (base := wr.heap.size) (size := 1) (e := 5) wr #[] 0 (Nat.le_refl _) (by decide) rfl).drew.drew
      generalize hA : (S.sf k).length = A at *
      generalize hB : (S.lo k).length = B at *
      have HA := Lib.hid hA
      have HB := Lib.hid hB
      clear hA hB
      rcases (by omega : n < 0 ∨ n = 0 ∨ (0 < n ∧ n < B) ∨ (0 < n ∧ n = B) ∨ (0 < n ∧ (B : Int) < n)) with h1 | rfl | ⟨h1, h2⟩ | ⟨h1, rfl⟩ | ⟨h1, h2⟩
      · obtain rfl : m = 0 := by omega
        clear hcn
        have hm : 0 ≤ B := by omega
        have hsl : ∀ w, (Instr.slice 27 (.slice b1 (A + B) k1) none (some (.int .i64 ((A : Int)))) none).run Try.prog w = .ok (.slice b1 (A) k1) w := fun w => by
          have := run_slice_to w b1 (A + B) k1 (A) (by omega)
          simpa using this
        have hNl : A ≤ 100000 := by omega
        have b0 : (0 : Int) ≤ (A : Int) := by omega
        have b1' : (0 : Int) ≤ (B : Int) := by omega
        have hwB : IntKind.i64.wrap ((A : Int) + (B : Int) - (A : Int)) = (B : Int) := by rw [IntWalk.i64_in _ (by omega)]; omega
        have hwX : IntKind.i64.wrap ((A : Int)) = (A : Int) := IntWalk.i64_in _ (by omega)
        have hmn : ((B : Int) < 0) = False := by simp; try omega
        go_wp2
        go_region_held3 (fun w' => w'.cell? ⟨M, k, none⟩ = some (.slice b1 (A + B) k1) ∧ w'.cell? ⟨M, 3 + k, none⟩ = some (.int .i64 A)) (go_keep) (fail)
        go_wp2
        go_region_held3 (fun w' => w'.cell? ⟨w.heap.size, k, none⟩ = some (.int .i64 n) ∧ w'.cell? ⟨M, 3 + k, none⟩ = some (.int .i64 A)) (go_keep) (fail)
        go_wp2
        try simp only [hwX]
        clear hwB hwX hmn
        have hown := ((World.ownsRow_made (base := wr.heap.size) (size := 1) (e := 5) wr #[] 0 (Nat.le_refl _) (by decide) rfl).drew.drew).drew
        have hys3 : Sl (wr.alloc (.cells #[] 5)).drew.drew.drew 1 (.slice b1 (A) k1) (A) _ := hys.keeps (fun a u h => keeps_new wr (.cells #[] 5) a u h)
        have hbn : Below wr.heap.size wr (wr.alloc (.cells #[] 5)).drew.drew.drew := (below_new wr (.cells #[] 5)).drew.drew
        have hsn : wr.heap.size ≤ (wr.alloc (.cells #[] 5)).drew.drew.drew.heap.size := hbn.size
        have c1x := fun x => Keeps.of_below (below_alloc wr x) _ _ c1
        go_region_law ((first | (refine step_append rfl _ _ _ rfl T27 (v := .slice (some ⟨wr.heap.size, 0, none⟩) 0 0) rfl hown rfl hys3 (B8_one _) (by unfold maxLen; omega) (by omega) hsn (A) _ (by omega) (List.nil_append _) ?_; intro v2 w2 hown2 hg2; obtain ⟨b2, k2, rfl⟩ := (Sl.of_own hown2).shape; have hb3 := hbn.grown hg2 hsn (fun k hk => (hown.lt k hk).1); have q1 := (hb3.cell (p := ⟨M, k, none⟩) hMs).trans c1; have q2 := (hb3.frozen (p := ⟨M, k, none⟩) hMs).trans f1; have q3 := (hb3.cell (p := ⟨M, 3 + k, none⟩) hMs).trans c2; have q4 := (hb3.frozen (p := ⟨M, 3 + k, none⟩) hMs).trans f2)))
        all_goals
          have hM3 := (hb3.block M hMs).trans HM.out
          have hfr := ((Fr.of_below hb3).setCell (S := (· = M)) (a := ⟨M, k, none⟩) rfl (.slice b2 (A) k2)).setCell (S := (· = M)) (a := ⟨M, 3 + k, none⟩) rfl (.int .i64 ((A : Int)))
          have hsb := ((Sb.of_own hown2).byt (Byt.set (i := k) hM3 (by decide) (.slice b2 (A) k2))).byt (Byt.set (i := 3 + k) (hset_same _ hM3) (by decide) (.int .i64 ((A : Int))))
          have hln : ((S.sf k ++ (S.lo k).take (0)).length : Int) = (A : Int) := by rw [HTL.out]; simp
          have hr3 := hr.ofD hfr HM.out hlt (v := .slice b2 (A) k2) (xs := S.sf k ++ (S.lo k).take (0)) (ys := []) (by rw [hln]; exact hset_same _ (hset_same _ hM3)) (by rw [List.append_nil]; exact hsb) (by rw [HTL.out]; simp; omega)
          have hff := hf.trans hfr
          rw [← HPS.out] at hr3
          have HR3 := Lib.hid hr3
          clear hr3 hsb hM3 hys hys3 hbn hln hfr
          go_wp2
          go_roundw
          case rel => exact ⟨k + 1, by omega, by go_num, HR3.out, hff⟩
          case measure => simp [intOf]; omega
      · obtain rfl : m = 0 := by omega
        clear hcn
        have hm : 0 ≤ B := by omega
        have hsl : ∀ w, (Instr.slice 27 (.slice b1 (A + B) k1) none (some (.int .i64 ((A : Int)))) none).run Try.prog w = .ok (.slice b1 (A) k1) w := fun w => by
          have := run_slice_to w b1 (A + B) k1 (A) (by omega)
          simpa using this
        have hNl : A ≤ 100000 := by omega
        have b0 : (0 : Int) ≤ (A : Int) := by omega
        have b1' : (0 : Int) ≤ (B : Int) := by omega
        have hwB : IntKind.i64.wrap ((A : Int) + (B : Int) - (A : Int)) = (B : Int) := by rw [IntWalk.i64_in _ (by omega)]; omega
        have hwX : IntKind.i64.wrap ((A : Int)) = (A : Int) := IntWalk.i64_in _ (by omega)
        have hmn : ((B : Int) < 0) = False := by simp; try omega
        go_wp2
        go_region_held3 (fun w' => w'.cell? ⟨M, k, none⟩ = some (.slice b1 (A + B) k1) ∧ w'.cell? ⟨M, 3 + k, none⟩ = some (.int .i64 A)) (go_keep) (fail)
        go_wp2
        go_region_held3 (fun w' => w'.cell? ⟨w.heap.size, k, none⟩ = some (.int .i64 0) ∧ w'.cell? ⟨M, 3 + k, none⟩ = some (.int .i64 A)) (go_keep) (fail)
        go_wp2
        try simp only [hwX]
        clear hwB hwX hmn
        have hown := ((World.ownsRow_made (base := wr.heap.size) (size := 1) (e := 5) wr #[] 0 (Nat.le_refl _) (by decide) rfl).drew.drew).drew
        have hys3 : Sl (wr.alloc (.cells #[] 5)).drew.drew.drew 1 (.slice b1 (A) k1) (A) _ := hys.keeps (fun a u h => keeps_new wr (.cells #[] 5) a u h)
        have hbn : Below wr.heap.size wr (wr.alloc (.cells #[] 5)).drew.drew.drew := (below_new wr (.cells #[] 5)).drew.drew
        have hsn : wr.heap.size ≤ (wr.alloc (.cells #[] 5)).drew.drew.drew.heap.size := hbn.size
        have c1x := fun x => Keeps.of_below (below_alloc wr x) _ _ c1
        go_region_law ((first | (refine step_append rfl _ _ _ rfl T27 (v := .slice (some ⟨wr.heap.size, 0, none⟩) 0 0) rfl hown rfl hys3 (B8_one _) (by unfold maxLen; omega) (by omega) hsn (A) _ (by omega) (List.nil_append _) ?_; intro v2 w2 hown2 hg2; obtain ⟨b2, k2, rfl⟩ := (Sl.of_own hown2).shape; have hb3 := hbn.grown hg2 hsn (fun k hk => (hown.lt k hk).1); have q1 := (hb3.cell (p := ⟨M, k, none⟩) hMs).trans c1; have q2 := (hb3.frozen (p := ⟨M, k, none⟩) hMs).trans f1; have q3 := (hb3.cell (p := ⟨M, 3 + k, none⟩) hMs).trans c2; have q4 := (hb3.frozen (p := ⟨M, 3 + k, none⟩) hMs).trans f2)))
        all_goals
          have hM3 := (hb3.block M hMs).trans HM.out
          have hfr := ((Fr.of_below hb3).setCell (S := (· = M)) (a := ⟨M, k, none⟩) rfl (.slice b2 (A) k2)).setCell (S := (· = M)) (a := ⟨M, 3 + k, none⟩) rfl (.int .i64 ((A : Int)))
          have hsb := ((Sb.of_own hown2).byt (Byt.set (i := k) hM3 (by decide) (.slice b2 (A) k2))).byt (Byt.set (i := 3 + k) (hset_same _ hM3) (by decide) (.int .i64 ((A : Int))))
          have hln : ((S.sf k ++ (S.lo k).take (0)).length : Int) = (A : Int) := by rw [HTL.out]; simp
          have hr3 := hr.ofD hfr HM.out hlt (v := .slice b2 (A) k2) (xs := S.sf k ++ (S.lo k).take (0)) (ys := []) (by rw [hln]; exact hset_same _ (hset_same _ hM3)) (by rw [List.append_nil]; exact hsb) (by rw [HTL.out]; simp; omega)
          have hff := hf.trans hfr
          rw [← HPS.out] at hr3
          have HR3 := Lib.hid hr3
          clear hr3 hsb hM3 hys hys3 hbn hln hfr
          go_wp2
          go_roundw
          case rel => exact ⟨k + 1, by omega, by go_num, HR3.out, hff⟩
          case measure => simp [intOf]; omega
      · obtain rfl : n = m := by omega
        clear hcn
        have hm : m ≤ B := by omega
        have hsl : ∀ w, (Instr.slice 27 (.slice b1 (A + B) k1) none (some (.int .i64 ((A : Int) + (m : Int)))) none).run Try.prog w = .ok (.slice b1 (A + m) k1) w := fun w => by
          have := run_slice_to w b1 (A + B) k1 (A + m) (by omega)
          simpa using this
        have hNl : A + m ≤ 100000 := by omega
        have b0 : (0 : Int) ≤ (A : Int) := by omega
        have b1' : (0 : Int) ≤ (B : Int) := by omega
        have hwB : IntKind.i64.wrap ((A : Int) + (B : Int) - (A : Int)) = (B : Int) := by rw [IntWalk.i64_in _ (by omega)]; omega
        have hwX : IntKind.i64.wrap ((A : Int) + (m : Int)) = (A : Int) + (m : Int) := IntWalk.i64_in _ (by omega)
        have hmn : (B < m) = False := by simp; try omega
        go_wp2
        go_region_held3 (fun w' => w'.cell? ⟨M, k, none⟩ = some (.slice b1 (A + B) k1) ∧ w'.cell? ⟨M, 3 + k, none⟩ = some (.int .i64 A)) (go_keep) (fail)
        go_wp2
        go_region_held3 (fun w' => w'.cell? ⟨w.heap.size, k, none⟩ = some (.int .i64 m) ∧ w'.cell? ⟨M, 3 + k, none⟩ = some (.int .i64 A)) (go_keep) (fail)
        go_wp2
        try simp only [hwX]
        clear hwB hwX hmn
        have hown := ((World.ownsRow_made (base := wr.heap.size) (size := 1) (e := 5) wr #[] 0 (Nat.le_refl _) (by decide) rfl).drew.drew).drew
        have hys3 : Sl (wr.alloc (.cells #[] 5)).drew.drew.drew 1 (.slice b1 (A + m) k1) (A + m) _ := hys.keeps (fun a u h => keeps_new wr (.cells #[] 5) a u h)
        have hbn : Below wr.heap.size wr (wr.alloc (.cells #[] 5)).drew.drew.drew := (below_new wr (.cells #[] 5)).drew.drew
        have hsn : wr.heap.size ≤ (wr.alloc (.cells #[] 5)).drew.drew.drew.heap.size := hbn.size
        have c1x := fun x => Keeps.of_below (below_alloc wr x) _ _ c1
        go_region_law ((first | (refine step_append rfl _ _ _ rfl T27 (v := .slice (some ⟨wr.heap.size, 0, none⟩) 0 0) rfl hown rfl hys3 (B8_one _) (by unfold maxLen; omega) (by omega) hsn (A + m) _ (by omega) (List.nil_append _) ?_; intro v2 w2 hown2 hg2; obtain ⟨b2, k2, rfl⟩ := (Sl.of_own hown2).shape; have hb3 := hbn.grown hg2 hsn (fun k hk => (hown.lt k hk).1); have q1 := (hb3.cell (p := ⟨M, k, none⟩) hMs).trans c1; have q2 := (hb3.frozen (p := ⟨M, k, none⟩) hMs).trans f1; have q3 := (hb3.cell (p := ⟨M, 3 + k, none⟩) hMs).trans c2; have q4 := (hb3.frozen (p := ⟨M, 3 + k, none⟩) hMs).trans f2)))
        all_goals
          have hM3 := (hb3.block M hMs).trans HM.out
          have hfr := ((Fr.of_below hb3).setCell (S := (· = M)) (a := ⟨M, k, none⟩) rfl (.slice b2 (A + m) k2)).setCell (S := (· = M)) (a := ⟨M, 3 + k, none⟩) rfl (.int .i64 ((A : Int) + (m : Int)))
          have hsb := ((Sb.of_own hown2).byt (Byt.set (i := k) hM3 (by decide) (.slice b2 (A + m) k2))).byt (Byt.set (i := 3 + k) (hset_same _ hM3) (by decide) (.int .i64 ((A : Int) + (m : Int))))
          have hln : ((S.sf k ++ (S.lo k).take (m)).length : Int) = (A : Int) + (m : Int) := by rw [HTL.out]; simp
          have hr3 := hr.ofD hfr HM.out hlt (v := .slice b2 (A + m) k2) (xs := S.sf k ++ (S.lo k).take (m)) (ys := []) (by rw [hln]; exact hset_same _ (hset_same _ hM3)) (by rw [List.append_nil]; exact hsb) (by rw [HTL.out]; simp; omega)
          have hff := hf.trans hfr
          rw [← HPS.out] at hr3
          have HR3 := Lib.hid hr3
          clear hr3 hsb hM3 hys hys3 hbn hln hfr
          go_wp2
          go_roundw
          case rel => exact ⟨k + 1, by omega, by go_num, HR3.out, hff⟩
          case measure => simp [intOf]; omega
      · obtain rfl : B = m := by omega
        clear hcn
        have hm : B ≤ B := by omega
        have hsl : ∀ w, (Instr.slice 27 (.slice b1 (A + B) k1) none (some (.int .i64 ((A : Int) + (B : Int)))) none).run Try.prog w = .ok (.slice b1 (A + B) k1) w := fun w => by
          have := run_slice_to w b1 (A + B) k1 (A + B) (by omega)
          simpa using this
        have hNl : A + B ≤ 100000 := by omega
        have b0 : (0 : Int) ≤ (A : Int) := by omega
        have b1' : (0 : Int) ≤ (B : Int) := by omega
        have hwB : IntKind.i64.wrap ((A : Int) + (B : Int) - (A : Int)) = (B : Int) := by rw [IntWalk.i64_in _ (by omega)]; omega
        have hwX : IntKind.i64.wrap ((A : Int) + (B : Int)) = (A : Int) + (B : Int) := IntWalk.i64_in _ (by omega)
        have hmn : ((B : Int) < (B : Int)) = False := by simp; try omega
        go_wp2
        go_region_held3 (fun w' => w'.cell? ⟨M, k, none⟩ = some (.slice b1 (A + B) k1) ∧ w'.cell? ⟨M, 3 + k, none⟩ = some (.int .i64 A)) (go_keep) (fail)
        go_wp2
        go_region_held3 (fun w' => w'.cell? ⟨w.heap.size, k, none⟩ = some (.int .i64 B) ∧ w'.cell? ⟨M, 3 + k, none⟩ = some (.int .i64 A)) (go_keep) (fail)
        go_wp2
        try simp only [hwX]
        clear hwB hwX hmn
        have hown := ((World.ownsRow_made (base := wr.heap.size) (size := 1) (e := 5) wr #[] 0 (Nat.le_refl _) (by decide) rfl).drew.drew).drew
        have hys3 : Sl (wr.alloc (.cells #[] 5)).drew.drew.drew 1 (.slice b1 (A + B) k1) (A + B) _ := hys.keeps (fun a u h => keeps_new wr (.cells #[] 5) a u h)
        have hbn : Below wr.heap.size wr (wr.alloc (.cells #[] 5)).drew.drew.drew := (below_new wr (.cells #[] 5)).drew.drew
        have hsn : wr.heap.size ≤ (wr.alloc (.cells #[] 5)).drew.drew.drew.heap.size := hbn.size
        have c1x := fun x => Keeps.of_below (below_alloc wr x) _ _ c1
        go_region_law ((first | (refine step_append rfl _ _ _ rfl T27 (v := .slice (some ⟨wr.heap.size, 0, none⟩) 0 0) rfl hown rfl hys3 (B8_one _) (by unfold maxLen; omega) (by omega) hsn (A + B) _ (by omega) (List.nil_append _) ?_; intro v2 w2 hown2 hg2; obtain ⟨b2, k2, rfl⟩ := (Sl.of_own hown2).shape; have hb3 := hbn.grown hg2 hsn (fun k hk => (hown.lt k hk).1); have q1 := (hb3.cell (p := ⟨M, k, none⟩) hMs).trans c1; have q2 := (hb3.frozen (p := ⟨M, k, none⟩) hMs).trans f1; have q3 := (hb3.cell (p := ⟨M, 3 + k, none⟩) hMs).trans c2; have q4 := (hb3.frozen (p := ⟨M, 3 + k, none⟩) hMs).trans f2)))
        all_goals
          have hM3 := (hb3.block M hMs).trans HM.out
          have hfr := ((Fr.of_below hb3).setCell (S := (· = M)) (a := ⟨M, k, none⟩) rfl (.slice b2 (A + B) k2)).setCell (S := (· = M)) (a := ⟨M, 3 + k, none⟩) rfl (.int .i64 ((A : Int) + (B : Int)))
          have hsb := ((Sb.of_own hown2).byt (Byt.set (i := k) hM3 (by decide) (.slice b2 (A + B) k2))).byt (Byt.set (i := 3 + k) (hset_same _ hM3) (by decide) (.int .i64 ((A : Int) + (B : Int))))
          have hln : ((S.sf k ++ (S.lo k).take (B)).length : Int) = (A : Int) + (B : Int) := by rw [HTL.out]; simp
          have hr3 := hr.ofD hfr HM.out hlt (v := .slice b2 (A + B) k2) (xs := S.sf k ++ (S.lo k).take (B)) (ys := []) (by rw [hln]; exact hset_same _ (hset_same _ hM3)) (by rw [List.append_nil]; exact hsb) (by rw [HTL.out]; simp; omega)
          have hff := hf.trans hfr
          rw [← HPS.out] at hr3
          have HR3 := Lib.hid hr3
          clear hr3 hsb hM3 hys hys3 hbn hln hfr
          go_wp2
          go_roundw
          case rel => exact ⟨k + 1, by omega, by go_num, HR3.out, hff⟩
          case measure => simp [intOf]; omega
      · obtain rfl : B = m := by omega
        clear hcn
        have hm : B ≤ B := by omega
        have hsl : ∀ w, (Instr.slice 27 (.slice b1 (A + B) k1) none (some (.int .i64 ((A : Int) + (B : Int)))) none).run Try.prog w = .ok (.slice b1 (A + B) k1) w := fun w => by
          have := run_slice_to w b1 (A + B) k1 (A + B) (by omega)
          simpa using this
        have hNl : A + B ≤ 100000 := by omega
        have b0 : (0 : Int) ≤ (A : Int) := by omega
        have b1' : (0 : Int) ≤ (B : Int) := by omega
        have hwB : IntKind.i64.wrap ((A : Int) + (B : Int) - (A : Int)) = (B : Int) := by rw [IntWalk.i64_in _ (by omega)]; omega
        have hwX : IntKind.i64.wrap ((A : Int) + (B : Int)) = (A : Int) + (B : Int) := IntWalk.i64_in _ (by omega)
        have hmn : ((B : Int) < n) = True := by simp; try omega
        go_wp2
        go_region_held3 (fun w' => w'.cell? ⟨M, k, none⟩ = some (.slice b1 (A + B) k1) ∧ w'.cell? ⟨M, 3 + k, none⟩ = some (.int .i64 A)) (go_keep) (fail)
        go_wp2
        go_region_held3 (fun w' => w'.cell? ⟨w.heap.size, k, none⟩ = some (.int .i64 n) ∧ w'.cell? ⟨M, 3 + k, none⟩ = some (.int .i64 A)) (go_keep) (fail)
        go_wp2
        try simp only [hwX]
        clear hwB hwX hmn
        have hown := ((World.ownsRow_made (base := wr.heap.size) (size := 1) (e := 5) wr #[] 0 (Nat.le_refl _) (by decide) rfl).drew.drew).drew
        have hys3 : Sl (wr.alloc (.cells #[] 5)).drew.drew.drew 1 (.slice b1 (A + B) k1) (A + B) _ := hys.keeps (fun a u h => keeps_new wr (.cells #[] 5) a u h)
        have hbn : Below wr.heap.size wr (wr.alloc (.cells #[] 5)).drew.drew.drew := (below_new wr (.cells #[] 5)).drew.drew
        have hsn : wr.heap.size ≤ (wr.alloc (.cells #[] 5)).drew.drew.drew.heap.size := hbn.size
        have c1x := fun x => Keeps.of_below (below_alloc wr x) _ _ c1
        go_region_law ((first | (refine step_append rfl _ _ _ rfl T27 (v := .slice (some ⟨wr.heap.size, 0, none⟩) 0 0) rfl hown rfl hys3 (B8_one _) (by unfold maxLen; omega) (by omega) hsn (A + B) _ (by omega) (List.nil_append _) ?_; intro v2 w2 hown2 hg2; obtain ⟨b2, k2, rfl⟩ := (Sl.of_own hown2).shape; have hb3 := hbn.grown hg2 hsn (fun k hk => (hown.lt k hk).1); have q1 := (hb3.cell (p := ⟨M, k, none⟩) hMs).trans c1; have q2 := (hb3.frozen (p := ⟨M, k, none⟩) hMs).trans f1; have q3 := (hb3.cell (p := ⟨M, 3 + k, none⟩) hMs).trans c2; have q4 := (hb3.frozen (p := ⟨M, 3 + k, none⟩) hMs).trans f2)))
        all_goals
          have hM3 := (hb3.block M hMs).trans HM.out
          have hfr := ((Fr.of_below hb3).setCell (S := (· = M)) (a := ⟨M, k, none⟩) rfl (.slice b2 (A + B) k2)).setCell (S := (· = M)) (a := ⟨M, 3 + k, none⟩) rfl (.int .i64 ((A : Int) + (B : Int)))
          have hsb := ((Sb.of_own hown2).byt (Byt.set (i := k) hM3 (by decide) (.slice b2 (A + B) k2))).byt (Byt.set (i := 3 + k) (hset_same _ hM3) (by decide) (.int .i64 ((A : Int) + (B : Int))))
          have hln : ((S.sf k ++ (S.lo k).take (B)).length : Int) = (A : Int) + (B : Int) := by rw [HTL.out]; simp
          have hr3 := hr.ofD hfr HM.out hlt (v := .slice b2 (A + B) k2) (xs := S.sf k ++ (S.lo k).take (B)) (ys := []) (by rw [hln]; exact hset_same _ (hset_same _ hM3)) (by rw [List.append_nil]; exact hsb) (by rw [HTL.out]; simp; omega)
          have hff := hf.trans hfr
          rw [← HPS.out] at hr3
          have HR3 := Lib.hid hr3
          clear hr3 hsb hM3 hys hys3 hbn hln hfr
          go_wp2
          go_roundw
          case rel => exact ⟨k + 1, by omega, by go_num, HR3.out, hff⟩
          case measure => simp [intOf]; omega
    · obtain rfl : k = 3 := by omega
      obtain ⟨cs, dv, hM, _, _, g6, g7, hsz, _⟩ := hr.at (d := 0) (by omega)
      have c6 := cell_of_heap hM g6
      have c7 := cell_of_heap hM g7
      have f6 := frozen_of_heap (i := 6) hM
      have f7 := frozen_of_heap (i := 7) hM
      have HM := Lib.hid hM
      clear hM hal
      go_wp2
      go_end0
      have hf2 := ((Fr.refl (· = M) wr).setCell (a := ⟨M, 6, none⟩) rfl (.bool false)).setCell (a := ⟨M, 7, none⟩) rfl (.int .i64 0)
      exact ⟨rfl, hr.ofA hf2 HM.out (hset_same _ (hset_same _ HM.out)) (by omega), (Fr.of_below (below_alloc _ _)).trans (hf.trans hf2)⟩
end Go.Proofs.Ytlelbkljhbkjdaa
