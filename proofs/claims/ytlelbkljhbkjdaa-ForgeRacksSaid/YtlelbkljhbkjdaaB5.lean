import Derived.Test.YtlelbkljhbkjdaaB4
namespace Go.Proofs.Ytlelbkljhbkjdaa
open Go.RowKit Go.Kk

theorem RackIs.below {w w1 : World} {R D : Nat} {S : St} (h : RackIs w R D S) (hb : Below w.heap.size w w1) : RackIs w1 R D S := by
  have hy := Byt.of_below hb
  obtain ⟨life, hR⟩ := h.rack
  obtain ⟨s0, l0, s1, l1, s2, l2, hD, a0, b0, a1, b1, a2, b2⟩ := h.disks
  exact ⟨⟨life, (hb.block R (heap_lt hR)).trans hR⟩, ⟨s0, l0, s1, l1, s2, l2, (hb.block D (heap_lt hD)).trans hD, a0.byt hy, b0.byt hy, a1.byt hy, b1.byt hy, a2.byt hy, b2.byt hy⟩, h.bound, h.armed⟩

theorem RackIs.drew {w : World} {R D : Nat} {S : St} (h : RackIs w R D S) : RackIs w.drew R D S := h.below ((Below.refl _ _).drew)

/-- what a call that changes a disk answers, and what it leaves; go: what it leaves if all is well -/
def doneE (S : St) (disk : Int) (ok : Bool) (go : St) : Int × St :=
  if S.down then (101, S) else if disk < 0 ∨ 2 < disk ∨ ok = false then (2, S) else if S.armed = 1 then (101, cut S) else (0, go)

def appS (S : St) (d : Nat) (bs : List UInt8) : St := { tick S with lo := upd S.lo d (S.lo d ++ bs) }
def syncS (S : St) (d : Nat) : St := { tick S with sf := upd S.sf d (S.sf d ++ S.lo d), lo := upd S.lo d [] }
def trimS (S : St) (d n : Nat) : St := { tick S with sf := upd S.sf d ((S.sf d ++ S.lo d).take n), lo := upd S.lo d [] }

/-- the cells of disk d are exchanged -/
theorem RackIs.ofD {w w1 : World} {R D : Nat} {S : St} (h : RackIs w R D S) (hf : Fr (· = D) w w1) {d : Nat} (hd : d < 3) {v1 v2 : Value} {xs ys : List UInt8} {cs : Array Value}
    (hw : w.heap[D]? = some (.cells cs 48 (0, 0))) (h1 : w1.heap[D]? = some (.cells ((cs.setIfInBounds (d * 2) v1).setIfInBounds (d * 2 + 1) v2) 48 (0, 0))) (hx : Sb w1 v1 xs) (hy : Sb w1 v2 ys) (hn : xs.length + ys.length ≤ 100000) :
    RackIs w1 R D { S with sf := upd S.sf d xs, lo := upd S.lo d ys } := by
  have hb := h.byt hf (fun k hk => .inr hk)
  have hne := h.ne
  obtain ⟨life, hR⟩ := h.rack
  obtain ⟨s0, l0, s1, l1, s2, l2, hD, a0, b0, a1, b1, a2, b2⟩ := h.disks
  have hbd := h.bound
  rw [hw] at hD
  obtain rfl : cs = #[s0, l0, s1, l1, s2, l2] := by simpa using hD
  refine ⟨⟨life, (hf.block R (heap_lt hR) hne).trans hR⟩, ?_, ?_, h.armed⟩
  · obtain rfl | rfl | rfl : d = 0 ∨ d = 1 ∨ d = 2 := by omega
    · exact ⟨_, _, _, _, _, _, h1, by simpa [upd] using hx, by simpa [upd] using hy, by simpa [upd] using a1.byt hb, by simpa [upd] using b1.byt hb, by simpa [upd] using a2.byt hb, by simpa [upd] using b2.byt hb⟩
    · exact ⟨_, _, _, _, _, _, h1, by simpa [upd] using a0.byt hb, by simpa [upd] using b0.byt hb, by simpa [upd] using hx, by simpa [upd] using hy, by simpa [upd] using a2.byt hb, by simpa [upd] using b2.byt hb⟩
    · exact ⟨_, _, _, _, _, _, h1, by simpa [upd] using a0.byt hb, by simpa [upd] using b0.byt hb, by simpa [upd] using a1.byt hb, by simpa [upd] using b1.byt hb, by simpa [upd] using hx, by simpa [upd] using hy⟩
  · intro k hk
    have := hbd k hk
    by_cases e : k = d
    · simp [upd, e]; omega
    · simp [upd, e]; omega

theorem set_self {cs : Array Value} {i : Nat} {v : Value} (h : cs[i]? = some v) : cs.setIfInBounds i v = cs := by
  apply Array.ext_getElem?
  intro j
  rw [Array.getElem?_setIfInBounds]
  split
  · rename_i e
    subst e
    split
    · exact h.symm
    · rename_i hlt
      rw [Array.getElem?_eq_none (by omega)]
  · rfl

/-- the cells of disk d -/
theorem RackIs.at {w : World} {R D : Nat} {S : St} (h : RackIs w R D S) {d : Nat} (hd : d < 3) :
    ∃ cs v1 v2, w.heap[D]? = some (.cells cs 48 (0, 0)) ∧ cs[d * 2]? = some v1 ∧ cs[d * 2 + 1]? = some v2 ∧ cs.size = 6 ∧ Sb w v1 (S.sf d) ∧ Sb w v2 (S.lo d) := by
  obtain ⟨s0, l0, s1, l1, s2, l2, hD, a0, b0, a1, b1, a2, b2⟩ := h.disks
  obtain rfl | rfl | rfl : d = 0 ∨ d = 1 ∨ d = 2 := by omega
  · exact ⟨_, _, _, hD, rfl, rfl, rfl, a0, b0⟩
  · exact ⟨_, _, _, hD, rfl, rfl, rfl, a1, b1⟩
  · exact ⟨_, _, _, hD, rfl, rfl, rfl, a2, b2⟩

set_option maxHeartbeats 1000000 in
theorem append_any {w : World} {R D : Nat} {S : St} (h : RackIs w R D S) (disk : Int) (v : Value) (bs : List UInt8) (hv : ∀ w1, Fr (fun k => k = R ∨ k = D) w w1 → Sl w1 1 v bs.length (B8 bs)) (hn : ∀ d, d < 3 → (S.sf d).length + (S.lo d).length + bs.length ≤ 100000) :
    Calls Try.prog 6 #[.pointer (some ⟨R, 0, none⟩), .int .i64 disk, v] w fun e w' =>
      e = .returned (.int .i64 (doneE S disk true (appS S disk.toNat bs)).1) ∧ RackIs w' R D (doneE S disk true (appS S disk.toNat bs)).2 ∧ Fr (fun k => k = R ∨ k = D) w w' := by
  obtain ⟨base, cap, rfl⟩ := (hv w (Fr.refl _ _)).shape
  by_cases hz : askE S disk = 0
  · obtain ⟨hd, h0⟩ : S.down = false ∧ ¬ (disk < 0 ∨ 2 < disk) := by
      unfold askE at hz
      by_cases hd : S.down = true
      · simp [hd] at hz
      · by_cases h0 : disk < 0 ∨ 2 < disk
        · simp [hd, h0] at hz
        · exact ⟨by simpa using hd, h0⟩
    obtain ⟨d, rfl⟩ : ∃ d : Nat, disk = d := ⟨disk.toNat, by omega⟩
    have hd3 : d < 3 := by omega
    have hne : (askE S d != 0) = false := by simp [hz]
    by_cases ha : S.armed = 1
    · have e0 : doneE S d true (appS S (d : Int).toNat bs) = (101, cut S) := by
        unfold doneE; rw [if_neg (by simp [hd]), if_neg (by simp; omega), if_pos ha]
      rw [e0]
      have hal := fun x => h.below (below_alloc w x)
      go_enter Try.func6, Try.ntmps6
      go_wp2_with (first | (go_at_call 24; refine (asked_any (hal _) _).mono ?_; rintro e w1 ⟨rfl, rfl⟩) | (go_at_call 25; refine (change_cut (hal _) ha _ _).mono ?_; rintro e w1 ⟨rfl, hr, hf⟩))
      go_ret
      exact ⟨rfl, hr, (Fr.of_below (below_alloc _ _)).trans hf⟩
    · have e0 : doneE S d true (appS S (d : Int).toNat bs) = (0, appS S d bs) := by
        unfold doneE; rw [if_neg (by simp [hd]), if_neg (by simp; omega), if_neg ha]; rfl
      rw [e0]
      have hal := fun x => h.below (below_alloc w x)
      have hcell := newA w w.heap.size #[.slice base bs.length cap] 27 0 _ rfl rfl
      have hnd := hn d hd3
      have hws : w.heap.size < (w.alloc (.cells #[.slice base bs.length cap] 27)).heap.size := by simp
      have hch := change_26 (hal (.cells #[.slice base bs.length cap] 27)) ha d hd3 ⟨w.heap.size, 0, none⟩ (fun w' => RackIs w' R D (appS S d bs) ∧ Fr (fun k => k = R ∨ k = D) w w') (by
        intro w1 hf hr
        obtain ⟨cs, v1, v2, hD, g1, g2, hsz, hx, hy⟩ := hr.at hd3
        have hRw := heap_lt (h.rack.choose_spec)
        have hfr : Fr (fun k => k = R ∨ k = D) w w1 := (Fr.of_below (below_alloc w _)).trans (hf.mono fun k hk => .inl hk)
        have hc : w1.cell? ⟨w.heap.size, 0, none⟩ = some (.slice base bs.length cap) := hf.cell hcell (by show ¬ (w.heap.size = R); omega)
        have hs1 := hv w1 hfr
        refine (append1 D (d * 2) w.heap.size _ _ w1 cs v2 (.slice base bs.length cap) (B8 ((tick S).lo d)) (B8 bs) hD g2 hc hy.sl hs1 (B8_one _) (B8_one _) (by show (S.lo d).length + _ ≤ _; omega)).mono ?_
        rintro e w2 ⟨rfl, v3, hf2, hD2, hown⟩
        refine ⟨rfl, ?_, hfr.trans (hf2.mono fun k hk => .inr hk)⟩
        rw [← B8_append] at hown
        have hb := hr.byt hf2 (fun k hk => .inr hk)
        have := hr.ofD hf2 hd3 (v1 := v1) (v2 := v3) (xs := S.sf d) (ys := S.lo d ++ bs) hD (by rw [set_self g1]; exact hD2) (hx.byt hb) (Sb.of_own hown) (by simp; omega)
        have e1 : upd S.sf d (S.sf d) = S.sf := by funext k; simp only [upd]; split <;> simp_all
        have e2 : ({ tick S with sf := upd (tick S).sf d (S.sf d), lo := upd (tick S).lo d (S.lo d ++ bs) } : St) = appS S d bs := by
          unfold appS; show ({ tick S with sf := upd S.sf d (S.sf d), lo := _ } : St) = _; rw [e1]; rfl
        rw [e2] at this
        exact this)
      have HC := Lib.hid hch
      clear hch hcell hws
      go_enter Try.func6, Try.ntmps6
      go_wp2_with (first | (go_at_call 24; refine (asked_any (hal _) _).mono ?_; rintro e w1 ⟨rfl, rfl⟩) | (go_at_call 25; refine HC.out.mono ?_; rintro e w1 ⟨rfl, hr, hf⟩))
      go_ret
      exact ⟨rfl, hr, hf⟩
  · have e0 : doneE S disk true (appS S disk.toNat bs) = (askE S disk, S) := by
      unfold doneE askE at *
      split
      · rfl
      · rename_i hd
        rw [if_neg hd] at hz
        by_cases h0 : disk < 0 ∨ 2 < disk
        · rw [if_pos h0, if_pos (by simp; omega)]
        · simp [h0] at hz
    have hne : (askE S disk != 0) = true := by simpa using hz
    rw [e0]
    have hal := fun x => h.below (below_alloc w x)
    go_enter Try.func6, Try.ntmps6
    go_wp2_with (go_at_call 24; refine (asked_any (hal _) _).mono ?_; rintro e w1 ⟨rfl, rfl⟩)
    go_ret
    exact ⟨rfl, hal _, Fr.of_below (below_alloc _ _)⟩

end Go.Proofs.Ytlelbkljhbkjdaa
