import Derived.Test.YtlelbkljhbkjdaaC4
import Derived.Test.YtlelbkljhbkjdaaBC
namespace Go.Proofs.Ytlelbkljhbkjdaa
open Go.RowKit Go.Kk

theorem done_out {S : St} {disk : Int} (h : disk < 0 ∨ 2 < disk) (a b : Bool) (g g' : St) : doneE S disk a g = doneE S disk b g' := by
  unfold doneE
  by_cases hd : S.down = true
  · simp [hd]
  · rw [if_neg hd, if_neg hd, if_pos (h.elim .inl fun h => .inr (.inl h)), if_pos (h.elim .inl fun h => .inr (.inl h))]

theorem done_false {S : St} {disk : Int} (g g' : St) : doneE S disk false g = doneE S disk false g' := by
  unfold doneE
  by_cases hd : S.down = true
  · simp [hd]
  · rw [if_neg hd, if_neg hd, if_pos (.inr (.inr rfl)), if_pos (.inr (.inr rfl))]

set_option maxHeartbeats 1000000 in
theorem rtrim_any {w : World} {M : Nat} {S : St} (h : RefIs w M S) (disk n : Int) :
    Calls Try.prog 11 #[.pointer (some ⟨M, 0, none⟩), .int .i64 disk, .int .i64 n] w fun e w' =>
      e = .returned (.int .i64 (doneE S disk (trimOk S disk.toNat n) (trimS S disk.toNat n.toNat)).1) ∧ RefIs w' M (doneE S disk (trimOk S disk.toNat n) (trimS S disk.toNat n.toNat)).2 ∧ Fr (· = M) w w' := by
  by_cases hout : disk < 0 ∨ 2 < disk
  · rw [done_out hout _ false _ (tick S)]
    have hx := rasked_any h disk false
    generalize hr : doneE S disk false (tick S) = r at *
    obtain ⟨er, S'⟩ := r
    have hne : (er == 0) = false := by
      rw [beq_eq_false_iff_ne]
      rintro rfl
      obtain ⟨d, rfl, hd3, -⟩ := done_zero (S := S) (disk := disk) (ok := false) (by rw [hr])
      omega
    have HX := Lib.hid hx
    clear hx hr
    by_cases h0 : disk < 0
    · go_enter Try.func11, Try.ntmps11
      go_wp2_with (go_at_call 28; refine HX.out.mono ?_; rintro e w1 ⟨rfl, hr, hf⟩)
      go_ret
      exact ⟨rfl, hr, hf⟩
    · have h2 : 2 < disk := by omega
      have h0' : 0 ≤ disk := by omega
      go_enter Try.func11, Try.ntmps11
      go_wp2_with (go_at_call 28; refine HX.out.mono ?_; rintro e w1 ⟨rfl, hr, hf⟩)
      go_ret
      exact ⟨rfl, hr, hf⟩
  · obtain ⟨d, rfl⟩ : ∃ d : Nat, disk = d := ⟨disk.toNat, by omega⟩
    have hd3 : d < 3 := by omega
    obtain ⟨cs, dv, hM, g1, g2, _, _, hsz, hdv⟩ := h.at hd3
    have c1 := cell_of_heap hM g1
    have hbd := h.bound d hd3
    obtain ⟨b1, k1, rfl⟩ := hdv.shape
    have hd2 : (d : Int) ≤ 2 := by omega
    have hd2' : ¬ 2 < (d : Int) := by omega
    have hd3i : (d : Int) < 3 := by omega
    clear hM
    by_cases ho : trimOk S d n = true
    · have hoo : trimOk S (d : Int).toNat n = true := ho
      obtain ⟨hn0, hn1⟩ : 0 ≤ n ∧ n ≤ (S.sf d).length + (S.lo d).length := by simpa [trimOk] using ho
      obtain ⟨m, rfl⟩ : ∃ m : Nat, n = m := ⟨n.toNat, by omega⟩
      rw [hoo]
      have hx := rasked_any h d true
      have hdec : decide ((m : Int) ≤ ((S.sf d ++ S.lo d).length : Int)) = true := by simp; omega
      have hml : m ≤ (S.sf d ++ S.lo d).length := by rw [List.length_append]; omega
      have hxl : (S.sf d ++ S.lo d).length ≤ 100000 := by rw [List.length_append]; omega
      by_cases hz : (doneE S d true (tick S)).1 = 0
      · obtain ⟨-, -, -, hdn, ha, -⟩ := done_zero hz
        rw [doneE_ok hdn hd3 ha] at hx ⊢
        have HX := Lib.hid hx
        clear hx hdn ha hz hoo ho g2
        generalize hxs : S.sf d ++ S.lo d = xs at *
        have HXS := Lib.hid hxs
        have htl : (xs.take m).length = m := by rw [List.length_take]; omega
        have HTL := Lib.hid htl
        clear hxs htl
        go_enter Try.func11, Try.ntmps11
        go_wp2_with (go_at_call 28; refine HX.out.mono ?_; rintro e w1 ⟨rfl, hr, hf⟩)
        obtain ⟨cs', dv', hM', g1', g2', _, _, hsz', hdv'⟩ := hr.at hd3
        have hx2 : S.sf d ++ S.lo d = xs := HXS.out
        rw [show (tick S).sf d ++ (tick S).lo d = xs from hx2] at hdv'
        have c1' := cell_of_heap hM' g1'
        have c2' := cell_of_heap hM' g2'
        have f1' := frozen_of_heap (i := d) hM'
        have f2' := frozen_of_heap (i := 3 + d) hM'
        have HM := Lib.hid hM'
        have hMs := heap_lt hM'
        obtain ⟨b1', k1', rfl⟩ := hdv'.shape
        have hsl := fun w => run_slice_to w b1' xs.length k1' m (by have := hdv'.cap_le.2; omega)
        have hyt := hdv'.take m hml
        have hys := hyt.sl
        rw [HTL.out] at hys
        have hown := (World.ownsRow_made (base := w1.heap.size) (size := 1) (e := 5) w1 #[] 0 (Nat.le_refl _) (by decide) rfl).drew
        have c1x := fun x => Keeps.of_below (below_alloc w1 x) _ _ c1'
        clear hM' hx2
        go_region_law ((first | (refine step_append rfl _ _ _ rfl T27 (v := .slice (some ⟨w1.heap.size, 0, none⟩) 0 0) rfl hown rfl (hys.keeps (keeps_new _ _)) (B8_one _) (by unfold maxLen; omega) (by omega) (by rw [size_new]; omega) m (B8 (xs.take m)) (by omega) (by simp) ?_; intro v2 w2 hown2 hg2; obtain ⟨b2, k2, rfl⟩ := (Sl.of_own hown2).shape; have hb3 := (below_new _ _).grown hg2 (by rw [size_new]; omega) (fun k hk => (hown.lt k hk).1); have q1 := (hb3.cell (p := ⟨M, d, none⟩) hMs).trans c1'; have q2 := (hb3.frozen (p := ⟨M, d, none⟩) hMs).trans f1'; have q3 := (hb3.cell (p := ⟨M, 3 + d, none⟩) hMs).trans c2'; have q4 := (hb3.frozen (p := ⟨M, 3 + d, none⟩) hMs).trans f2')))
        all_goals
          have hM3 := (hb3.block M hMs).trans HM.out
          have hfr := ((Fr.of_below hb3).setCell (S := (· = M)) (a := ⟨M, d, none⟩) rfl (.slice b2 m k2)).setCell (S := (· = M)) (a := ⟨M, 3 + d, none⟩) rfl (.int .i64 m)
          have hsb : Sb ((w2.setCell ⟨M, d, none⟩ (.slice b2 m k2)).setCell ⟨M, 3 + d, none⟩ (.int .i64 m)) (.slice b2 m k2) (xs.take m ++ []) := by
            have h1 := ((Sb.of_own hown2).byt (Byt.set (i := d) hM3 (by decide) (.slice b2 m k2))).byt (Byt.set (i := 3 + d) (hset_same _ hM3) (by decide) (.int .i64 m))
            rw [List.append_nil]
            exact h1
          have hr3 := hr.ofD hfr HM.out hd3 (v := .slice b2 m k2) (xs := xs.take m) (ys := []) (by rw [HTL.out]; exact hset_same _ (hset_same _ hM3)) hsb (by rw [HTL.out]; simp; omega)
          have e2 : ({ tick S with sf := upd (tick S).sf d (xs.take m), lo := upd (tick S).lo d [] } : St) = trimS S (d : Int).toNat (m : Int).toNat := by
            have hx3 : S.sf d ++ S.lo d = xs := HXS.out
            unfold trimS
            rw [← hx3]
            rfl
          rw [e2] at hr3
          have HR3 := Lib.hid hr3
          clear hr3 e2 hsb hM3 hys hyt hdv'
          go_wp2
          go_ret
          exact ⟨rfl, HR3.out, hf.trans hfr⟩
      · have e0 := done_other hz (trimS S (d : Int).toNat (m : Int).toNat)
        rw [e0]
        generalize hr : doneE S d true (tick S) = r at *
        obtain ⟨er, S'⟩ := r
        have hne : (er == 0) = false := by simpa using hz
        have HX := Lib.hid hx
        clear hx hr hoo ho hz e0
        generalize S.sf d ++ S.lo d = xs at *
        go_enter Try.func11, Try.ntmps11
        go_wp2_with (go_at_call 28; refine HX.out.mono ?_; rintro e w1 ⟨rfl, hr, hf⟩)
        go_ret
        exact ⟨rfl, hr, hf⟩
    · have hof : trimOk S (d : Int).toNat n = false := by simpa using ho
      rw [hof, done_false _ (tick S)]
      have hx := rasked_any h d false
      generalize hr : doneE S d false (tick S) = r at *
      obtain ⟨er, S'⟩ := r
      have hne : (er == 0) = false := by
        rw [beq_eq_false_iff_ne]
        rintro rfl
        obtain ⟨d, -, -, -, -, hh⟩ := done_zero (S := S) (disk := d) (ok := false) (by rw [hr])
        simp at hh
      have HX := Lib.hid hx
      clear hx hr hof
      by_cases h0 : n < 0
      · clear ho
        go_enter Try.func11, Try.ntmps11
        go_wp2_with (go_at_call 28; refine HX.out.mono ?_; rintro e w1 ⟨rfl, hr, hf⟩)
        go_ret
        exact ⟨rfl, hr, hf⟩
      · have hgt : ((S.sf d ++ S.lo d).length : Int) < n := by
          unfold trimOk at ho; simp at ho; rw [List.length_append]; omega
        have hge : 0 ≤ n := by omega
        generalize S.sf d ++ S.lo d = xs at *
        have hdec : decide (n ≤ (xs.length : Int)) = false := by simp; omega
        clear ho
        go_enter Try.func11, Try.ntmps11
        go_wp2_with (go_at_call 28; refine HX.out.mono ?_; rintro e w1 ⟨rfl, hr, hf⟩)
        go_ret
        exact ⟨rfl, hr, hf⟩
end Go.Proofs.Ytlelbkljhbkjdaa
