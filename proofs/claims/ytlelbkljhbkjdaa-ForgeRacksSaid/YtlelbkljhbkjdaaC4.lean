import Derived.Test.YtlelbkljhbkjdaaC3
namespace Go.Proofs.Ytlelbkljhbkjdaa
open Go.RowKit Go.Kk

theorem done_zero {S : St} {disk : Int} {ok : Bool} (hz : (doneE S disk ok (tick S)).1 = 0) : ∃ d : Nat, disk = d ∧ d < 3 ∧ S.down = false ∧ ¬ S.armed = 1 ∧ ok = true := by
  unfold doneE at hz
  by_cases hd : S.down = true
  · simp [hd] at hz
  · by_cases h0 : disk < 0 ∨ 2 < disk ∨ ok = false
    · rw [if_neg hd, if_pos h0] at hz
      simp at hz
    · by_cases ha : S.armed = 1
      · rw [if_neg hd, if_neg h0, if_pos ha] at hz
        simp at hz
      · refine ⟨disk.toNat, by omega, by omega, by simpa using hd, ha, ?_⟩
        cases ok
        · exact absurd (.inr (.inr rfl)) h0
        · rfl
theorem done_other {S : St} {disk : Int} {ok : Bool} (hz : ¬ (doneE S disk ok (tick S)).1 = 0) (g : St) : doneE S disk ok g = doneE S disk ok (tick S) := by
  unfold doneE at hz ⊢
  by_cases hd : S.down = true
  · simp [hd]
  · by_cases h0 : disk < 0 ∨ 2 < disk ∨ ok = false
    · rw [if_neg hd, if_neg hd, if_pos h0, if_pos h0]
    · by_cases ha : S.armed = 1
      · rw [if_neg hd, if_neg hd, if_neg h0, if_neg h0, if_pos ha, if_pos ha]
      · rw [if_neg hd, if_neg h0, if_neg ha] at hz
        simp at hz

set_option maxHeartbeats 1000000 in
theorem rsync_any {w : World} {M : Nat} {S : St} (h : RefIs w M S) (disk : Int) :
    Calls Try.prog 9 #[.pointer (some ⟨M, 0, none⟩), .int .i64 disk] w fun e w' =>
      e = .returned (.int .i64 (doneE S disk true (syncS S disk.toNat)).1) ∧ RefIs w' M (doneE S disk true (syncS S disk.toNat)).2 ∧ Fr (· = M) w w' := by
  by_cases hz : (doneE S disk true (tick S)).1 = 0
  · obtain ⟨d, rfl, hd3, hdn, ha, -⟩ := done_zero hz
    have hx := rasked_any h d true
    have hbd := h.bound d hd3
    rw [doneE_ok hdn hd3 ha] at hx ⊢
    have hd3i : (d : Int) < 3 := by omega
    have HX := Lib.hid hx
    clear hx hdn ha hz
    go_enter Try.func9, Try.ntmps9
    go_wp2_with (go_at_call 28; refine HX.out.mono ?_; rintro e w1 ⟨rfl, hr, hf⟩)
    obtain ⟨cs, dv, hM, g1, g2, _, _, hsz, hdv⟩ := hr.at hd3
    have c1 := cell_of_heap hM g1
    have c2 := cell_of_heap hM g2
    have f2 := frozen_of_heap (i := 3 + d) hM
    have hset := set_self g1
    have HS := Lib.hid hset
    have HM := Lib.hid hM
    generalize hxs : (tick S).sf d ++ (tick S).lo d = xs at *
    have hxl : xs.length ≤ 100000 := by rw [← hxs, List.length_append]; exact hbd
    have HXS := Lib.hid hxs
    obtain ⟨b1, k1, rfl⟩ := hdv.shape
    clear hset hM hxs
    go_region
    go_wp2
    go_ret
    have hfr := (Fr.refl (· = M) w1).setCell (a := ⟨M, 3 + d, none⟩) rfl (.int .i64 xs.length)
    have hsb : Sb (w1.setCell ⟨M, 3 + d, none⟩ (.int .i64 xs.length)) (.slice b1 xs.length k1) (xs ++ []) := by
      rw [List.append_nil]
      exact hdv.byt (Byt.set HM.out (by decide) _)
    have hr3 := hr.ofD hfr HM.out hd3 (v := .slice b1 xs.length k1) (xs := xs) (ys := []) (by rw [HS.out]; exact hset_same _ HM.out) hsb (by simpa using hxl)
    have hx2 : S.sf d ++ S.lo d = xs := HXS.out
    rw [← hx2] at hr3 ⊢
    exact ⟨rfl, hr3.below ((Below.refl _ _).drew), (hf.trans (by rw [hx2]; exact hfr)).drew⟩
  · have hx := rasked_any h disk true
    rw [done_other hz]
    generalize doneE S disk true (tick S) = r at *
    obtain ⟨er, S'⟩ := r
    have hne : (er == 0) = false := by simpa using hz
    have HX := Lib.hid hx
    clear hx hz
    go_enter Try.func9, Try.ntmps9
    go_wp2_with (go_at_call 28; refine HX.out.mono ?_; rintro e w1 ⟨rfl, hr, hf⟩)
    go_ret
    exact ⟨rfl, hr, hf⟩
end Go.Proofs.Ytlelbkljhbkjdaa
