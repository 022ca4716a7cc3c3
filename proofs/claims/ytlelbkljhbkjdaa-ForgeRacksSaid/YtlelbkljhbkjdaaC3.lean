import Derived.Test.YtlelbkljhbkjdaaC2
import Derived.Test.YtlelbkljhbkjdaaK2
namespace Go.Proofs.Ytlelbkljhbkjdaa
open Go.RowKit Go.Kk

set_option maxHeartbeats 1000000 in
theorem rappend_any {w : World} {M : Nat} {S : St} (h : RefIs w M S) (disk : Int) (v : Value) (bs : List UInt8) (hv : ∀ w1, Fr (· = M) w w1 → Sl w1 1 v bs.length (B8 bs)) (hn : ∀ d, d < 3 → (S.sf d).length + (S.lo d).length + bs.length ≤ 100000) :
    Calls Try.prog 7 #[.pointer (some ⟨M, 0, none⟩), .int .i64 disk, v] w fun e w' =>
      e = .returned (.int .i64 (doneE S disk true (appS S disk.toNat bs)).1) ∧ RefIs w' M (doneE S disk true (appS S disk.toNat bs)).2 ∧ Fr (· = M) w w' := by
  by_cases hz : (doneE S disk true (tick S)).1 = 0
  · obtain ⟨d, rfl, hd3, hdn, ha⟩ : ∃ d : Nat, disk = d ∧ d < 3 ∧ S.down = false ∧ ¬ S.armed = 1 := by
      unfold doneE at hz
      by_cases hd : S.down = true
      · simp [hd] at hz
      · by_cases h0 : disk < 0 ∨ 2 < disk
        · rw [if_neg hd, if_pos (h0.elim .inl fun h => .inr (.inl h))] at hz
          simp at hz
        · by_cases ha : S.armed = 1
          · rw [if_neg hd, if_neg (by simp; omega), if_pos ha] at hz
            simp at hz
          · exact ⟨disk.toNat, by omega, by omega, by simpa using hd, ha⟩
    have hx := rasked_any h d true
    rw [doneE_ok hdn hd3 ha] at hx ⊢
    have hnd := hn d hd3
    have hd3i : (d : Int) < 3 := by omega
    have HX := Lib.hid hx
    clear hx hdn ha hz
    go_enter Try.func7, Try.ntmps7
    go_wp2_with (go_at_call 28; refine HX.out.mono ?_; rintro e w1 ⟨rfl, hr, hf⟩)
    obtain ⟨cs, dv, hM, g1, g2, _, _, hsz, hdv⟩ := hr.at hd3
    have c1 := cell_of_heap hM g1
    have f1 := frozen_of_heap (i := d) hM
    have hs1 := hv w1 hf
    have hxl : ((tick S).sf d ++ (tick S).lo d).length + bs.length ≤ 100000 := by rw [List.length_append]; exact hnd
    generalize hxs : (tick S).sf d ++ (tick S).lo d = xs at *
    have HXS := Lib.hid hxs
    have HM := Lib.hid hM
    have hMs := heap_lt hM
    have hg3 := fun u => set_self (cs := cs.setIfInBounds d u) (i := 3 + d) (v := .int .i64 ((tick S).sf d).length) (by rw [Array.getElem?_setIfInBounds, if_neg (by omega)]; exact g2)
    have HG3 := Lib.hid hg3
    obtain ⟨b1, k1, rfl⟩ := hdv.shape
    have hds := hdv.sl
    have hown := (World.ownsRow_made (base := w1.heap.size) (size := 1) (e := 5) w1 #[] 0 (Nat.le_refl _) (by decide) rfl).drew
    have c1x := fun x => Keeps.of_below (below_alloc w1 x) _ _ c1
    clear hxs hM hdv hg3
    go_region_law ((first | (refine step_append rfl _ _ _ rfl T27 (v := .slice (some ⟨w1.heap.size, 0, none⟩) 0 0) rfl hown rfl (hds.keeps (keeps_new _ _)) (B8_one _) (by unfold maxLen; omega) (by omega) (by rw [size_new]; omega) xs.length (B8 xs) (by omega) (by simp) ?_; intro v2 w2 hown2 hg2; obtain ⟨b2, k2, rfl⟩ := (Sl.of_own hown2).shape; have hb2 := (below_new _ _).grown hg2 (by rw [size_new]; omega) (fun k hk => (hown.lt k hk).1); have hs2 := hv w2 (hf.trans (Fr.of_below hb2)); have hh2 := hb2.size) | (refine step_append rfl _ _ _ rfl T27 (v := .slice b2 xs.length k2) rfl hown2 rfl hs2 (B8_one _) (by unfold maxLen; omega) (by omega) hh2 (xs.length + bs.length) (B8 (xs ++ bs)) (by omega) (B8_append _ _).symm ?_; intro v3 w3 hown3 hg3; obtain ⟨b3, k3, rfl⟩ := (Sl.of_own hown3).shape; have hb3 := hb2.grown hg3 hh2 (fun k hk => (hown2.lt k hk).1); have q1 := (hb3.cell (p := ⟨M, d, none⟩) hMs).trans c1; have q2 := (hb3.frozen (p := ⟨M, d, none⟩) hMs).trans f1)))
    all_goals
      go_wp2
      go_ret
      have hfr := (Fr.of_below hb3).setCell (S := (· = M)) (a := ⟨M, d, none⟩) rfl (.slice b3 (xs.length + bs.length) k3)
      have hM3 := (hb3.block M hMs).trans HM.out
      have hsb : Sb (w3.setCell ⟨M, d, none⟩ (.slice b3 (xs.length + bs.length) k3)) (.slice b3 (xs.length + bs.length) k3) (S.sf d ++ (S.lo d ++ bs)) := by
        have h1 := (Sb.of_own hown3).byt (Byt.set (i := d) hM3 (by decide) (.slice b3 (xs.length + bs.length) k3))
        have h2 : S.sf d ++ S.lo d = xs := HXS.out
        rw [← List.append_assoc, h2]
        exact h1
      have hr3 := hr.ofD hfr HM.out hd3 (v := .slice b3 (xs.length + bs.length) k3) (xs := S.sf d) (ys := S.lo d ++ bs) (by
        have := HG3.out (.slice b3 (xs.length + bs.length) k3)
        rw [show (tick S).sf d = S.sf d from rfl] at this
        rw [this]
        exact hset_same _ hM3) hsb (by rw [List.length_append]; omega)
      have e1 : upd S.sf d (S.sf d) = S.sf := by funext k; simp only [upd]; split <;> simp_all
      have e2 : ({ tick S with sf := upd (tick S).sf d (S.sf d), lo := upd (tick S).lo d (S.lo d ++ bs) } : St) = appS S d bs := by
        unfold appS; show ({ tick S with sf := upd S.sf d (S.sf d), lo := _ } : St) = _; rw [e1]; rfl
      rw [e2] at hr3
      exact ⟨rfl, hr3, hf.trans hfr⟩
  · have hx := rasked_any h disk true
    have e0 : doneE S disk true (appS S disk.toNat bs) = doneE S disk true (tick S) := by
      unfold doneE at hz ⊢
      by_cases hd : S.down = true
      · simp [hd]
      · by_cases h0 : disk < 0 ∨ 2 < disk ∨ true = false
        · rw [if_neg hd, if_neg hd, if_pos h0, if_pos h0]
        · by_cases ha : S.armed = 1
          · rw [if_neg hd, if_neg hd, if_neg h0, if_neg h0, if_pos ha, if_pos ha]
          · rw [if_neg hd, if_neg h0, if_neg ha] at hz
            simp at hz
    rw [e0]
    generalize doneE S disk true (tick S) = r at *
    obtain ⟨er, S'⟩ := r
    have hne : (er == 0) = false := by simpa using hz
    have HX := Lib.hid hx
    clear hx e0 hz
    go_enter Try.func7, Try.ntmps7
    go_wp2_with (go_at_call 28; refine HX.out.mono ?_; rintro e w1 ⟨rfl, hr, hf⟩)
    go_ret
    exact ⟨rfl, hr, hf⟩
end Go.Proofs.Ytlelbkljhbkjdaa
