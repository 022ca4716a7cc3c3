import Derived.Test.YtlelbkljhbkjdaaC1
namespace Go.Proofs.Ytlelbkljhbkjdaa
open Go.RowKit Go.Kk

set_option maxHeartbeats 1000000 in
theorem rasked_any {w : World} {M : Nat} {S : St} (h : RefIs w M S) (disk : Int) (ok : Bool) :
    Calls Try.prog 28 #[.pointer (some ⟨M, 0, none⟩), .int .i64 disk, .bool ok] w fun e w' => e = .returned (.int .i64 (doneE S disk ok (tick S)).1) ∧ RefIs w' M (doneE S disk ok (tick S)).2 ∧ Fr (· = M) w w' := by
  obtain ⟨cs, v, hM, _, _, g6, g7, hsz, _⟩ := h.at (d := 0) (by omega)
  have c6 := cell_of_heap hM g6
  have c7 := cell_of_heap hM g7
  have f6 := frozen_of_heap (i := 6) hM
  have f7 := frozen_of_heap (i := 7) hM
  have HM := Lib.hid hM
  have hb := h.armed
  have hs6 := set_self g6
  have HS6 := Lib.hid hs6
  clear hM g6 hsz hs6
  by_cases hd : S.down = true
  · have e0 : doneE S disk ok (tick S) = (101, S) := by unfold doneE; rw [if_pos hd]
    rw [e0]
    rw [hd] at c6
    go_enter Try.func28, Try.ntmps28
    go_wp2
    go_ret
    exact ⟨rfl, h, Fr.refl _ _⟩
  · have hd' : S.down = false := by simpa using hd
    have HD := Lib.hid hd'
    rw [hd'] at c6
    by_cases hbad : disk < 0 ∨ 2 < disk ∨ ok = false
    · have e0 : doneE S disk ok (tick S) = (2, S) := by unfold doneE; rw [if_neg hd, if_pos hbad]
      rw [e0]
      clear hd'
      by_cases h0 : disk < 0
      · go_enter Try.func28, Try.ntmps28
        go_wp2
        go_ret
        exact ⟨rfl, h, Fr.refl _ _⟩
      · by_cases h2 : 2 < disk
        · go_enter Try.func28, Try.ntmps28
          go_wp2
          go_ret
          exact ⟨rfl, h, Fr.refl _ _⟩
        · have hok : ok = false := by simpa [h0, h2] using hbad
          subst hok
          go_enter Try.func28, Try.ntmps28
          go_wp2
          go_ret
          exact ⟨rfl, h, Fr.refl _ _⟩
    · have h0 : ¬ disk < 0 := fun x => hbad (.inl x)
      have h2 : ¬ 2 < disk := fun x => hbad (.inr (.inl x))
      have hok : ok = true := by cases ok <;> simp at hbad ⊢
      subst hok
      by_cases ha : S.armed = 1
      · have e0 : doneE S disk true (tick S) = (101, cut S) := by unfold doneE; rw [if_neg hd, if_neg hbad, if_pos ha]
        rw [e0]
        rw [ha] at c7
        clear hd' ha hbad
        go_enter Try.func28, Try.ntmps28
        go_wp2
        go_ret
        have hf := ((Fr.refl (· = M) w).setCell (a := ⟨M, 7, none⟩) rfl (.int .i64 0)).setCell (a := ⟨M, 6, none⟩) rfl (.bool true)
        refine ⟨rfl, h.ofA hf HM.out (armed := 0) (down := true) ?_ (by omega), hf⟩
        rw [Array.setIfInBounds_comm _ _ (by decide)]
        exact hset_same _ (hset_same _ HM.out)
      · have e0 : doneE S disk true (tick S) = (0, tick S) := by unfold doneE; rw [if_neg hd, if_neg hbad, if_neg ha]
        rw [e0]
        by_cases hz : S.armed = 0
        · have e1 : tick S = S := by unfold tick; rw [hz]; cases S; simp at hz ⊢; omega
          rw [e1]
          rw [hz] at c7
          clear hd' ha hbad e1 e0 hz
          go_enter Try.func28, Try.ntmps28
          go_wp2
          go_ret
          exact ⟨rfl, h, Fr.refl _ _⟩
        · have hp : 1 < S.armed := by omega
          have hp1 : (S.armed - 1 == 0) = false := by rw [beq_eq_false_iff_ne]; omega
          clear hd' ha hbad hz
          go_enter Try.func28, Try.ntmps28
          go_wp2
          go_ret
          have hf := (Fr.refl (· = M) w).setCell (a := ⟨M, 7, none⟩) rfl (.int .i64 (S.armed - 1))
          have e2 : tick S = { S with armed := S.armed - 1, down := S.down } := by
            unfold tick
            have : max (S.armed - 1) 0 = S.armed - 1 := by omega
            rw [this]
          rw [e2]
          refine ⟨rfl, h.ofA hf HM.out (armed := S.armed - 1) (down := S.down) ?_ (by omega), hf⟩
          rw [HS6.out]
          exact hset_same _ HM.out
end Go.Proofs.Ytlelbkljhbkjdaa
