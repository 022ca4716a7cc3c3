import Derived.Test.YtlelbkljhbkjdaaB9
namespace Go.Proofs.Ytlelbkljhbkjdaa
open Go.RowKit Go.Kk

/-- the reference's rack -/
structure RefIs (w : World) (M : Nat) (S : St) : Prop where
  heap : ∃ d0 d1 d2, w.heap[M]? = some (.cells #[d0, d1, d2, .int .i64 (S.sf 0).length, .int .i64 (S.sf 1).length, .int .i64 (S.sf 2).length, .bool S.down, .int .i64 S.armed] 31 (0, 0)) ∧
    Sb w d0 (S.sf 0 ++ S.lo 0) ∧ Sb w d1 (S.sf 1 ++ S.lo 1) ∧ Sb w d2 (S.sf 2 ++ S.lo 2)
  bound : ∀ d, d < 3 → (S.sf d).length + (S.lo d).length ≤ 100000
  armed : 0 ≤ S.armed ∧ S.armed ≤ 9223372036854775807

theorem RefIs.byt {w w1 : World} {M : Nat} {S : St} (h : RefIs w M S) (hf : Fr (· = M) w w1) : Byt w w1 := by
  obtain ⟨d0, d1, d2, hM, _⟩ := h.heap
  refine Byt.of_fr hf fun k hk c fr => ?_
  subst hk
  rw [hM]; simp

theorem RefIs.below {w w1 : World} {M : Nat} {S : St} (h : RefIs w M S) (hb : Below w.heap.size w w1) : RefIs w1 M S := by
  have hy := Byt.of_below hb
  obtain ⟨d0, d1, d2, hM, a0, a1, a2⟩ := h.heap
  exact ⟨⟨d0, d1, d2, (hb.block M (heap_lt hM)).trans hM, a0.byt hy, a1.byt hy, a2.byt hy⟩, h.bound, h.armed⟩
/-- the reference's rack stays while the program's changes -/
theorem RefIs.fr {w w1 : World} {M R D : Nat} {S T : St} (h : RefIs w M S) (hr : RackIs w R D T) (hf : Fr (fun k => k = R ∨ k = D) w w1) : RefIs w1 M S := by
  have hy := hr.byt hf (fun k hk => hk)
  obtain ⟨d0, d1, d2, hM, a0, a1, a2⟩ := h.heap
  obtain ⟨life, hR⟩ := hr.rack
  obtain ⟨s0, l0, s1, l1, s2, l2, hD, _⟩ := hr.disks
  refine ⟨⟨d0, d1, d2, (hf.block M (heap_lt hM) ?_).trans hM, a0.byt hy, a1.byt hy, a2.byt hy⟩, h.bound, h.armed⟩
  rintro (rfl | rfl)
  · rw [hM] at hR; simp at hR
  · rw [hM] at hD; simp at hD
theorem RackIs.fr {w w1 : World} {M R D : Nat} {S T : St} (h : RackIs w R D S) (hr : RefIs w M T) (hf : Fr (· = M) w w1) : RackIs w1 R D S := by
  have hy := hr.byt hf
  obtain ⟨d0, d1, d2, hM, _⟩ := hr.heap
  obtain ⟨life, hR⟩ := h.rack
  obtain ⟨s0, l0, s1, l1, s2, l2, hD, a0, b0, a1, b1, a2, b2⟩ := h.disks
  refine ⟨⟨life, (hf.block R (heap_lt hR) ?_).trans hR⟩, ⟨s0, l0, s1, l1, s2, l2, (hf.block D (heap_lt hD) ?_).trans hD, a0.byt hy, b0.byt hy, a1.byt hy, b1.byt hy, a2.byt hy, b2.byt hy⟩, h.bound, h.armed⟩
  · rintro rfl; rw [hM] at hR; simp at hR
  · rintro rfl; rw [hM] at hD; simp at hD

/-- armed and down have changed -/
theorem RefIs.ofA {w w1 : World} {M : Nat} {S : St} (h : RefIs w M S) (hf : Fr (· = M) w w1) {cs : Array Value} (hM : w.heap[M]? = some (.cells cs 31 (0, 0))) {armed : Int} {down : Bool}
    (h1 : w1.heap[M]? = some (.cells ((cs.setIfInBounds 6 (.bool down)).setIfInBounds 7 (.int .i64 armed)) 31 (0, 0))) (ha : 0 ≤ armed ∧ armed ≤ 9223372036854775807) : RefIs w1 M { S with armed := armed, down := down } := by
  have hb := h.byt hf
  obtain ⟨d0, d1, d2, hM', a0, a1, a2⟩ := h.heap
  rw [hM] at hM'
  simp at hM'
  subst hM'
  exact ⟨⟨d0, d1, d2, h1, a0.byt hb, a1.byt hb, a2.byt hb⟩, h.bound, ha⟩

/-- disk d has changed -/
theorem RefIs.ofD {w w1 : World} {M : Nat} {S : St} (h : RefIs w M S) (hf : Fr (· = M) w w1) {cs : Array Value} (hM : w.heap[M]? = some (.cells cs 31 (0, 0))) {d : Nat} (hd : d < 3) {v : Value} {xs ys : List UInt8}
    (h1 : w1.heap[M]? = some (.cells ((cs.setIfInBounds d v).setIfInBounds (3 + d) (.int .i64 xs.length)) 31 (0, 0))) (hv : Sb w1 v (xs ++ ys)) (hn : xs.length + ys.length ≤ 100000) : RefIs w1 M { S with sf := upd S.sf d xs, lo := upd S.lo d ys } := by
  have hb := h.byt hf
  obtain ⟨d0, d1, d2, hM', a0, a1, a2⟩ := h.heap
  have hbd := h.bound
  rw [hM] at hM'
  simp at hM'
  subst hM'
  refine ⟨?_, ?_, h.armed⟩
  · obtain rfl | rfl | rfl : d = 0 ∨ d = 1 ∨ d = 2 := by omega
    · exact ⟨_, _, _, by simpa [upd] using h1, by simpa [upd] using hv, by simpa [upd] using a1.byt hb, by simpa [upd] using a2.byt hb⟩
    · exact ⟨_, _, _, by simpa [upd] using h1, by simpa [upd] using a0.byt hb, by simpa [upd] using hv, by simpa [upd] using a2.byt hb⟩
    · exact ⟨_, _, _, by simpa [upd] using h1, by simpa [upd] using a0.byt hb, by simpa [upd] using a1.byt hb, by simpa [upd] using hv⟩
  · intro k hk
    have := hbd k hk
    by_cases e : k = d
    · simp [upd, e]; omega
    · simp [upd, e]; omega

theorem RefIs.at {w : World} {M : Nat} {S : St} (h : RefIs w M S) {d : Nat} (hd : d < 3) :
    ∃ cs v, w.heap[M]? = some (.cells cs 31 (0, 0)) ∧ cs[d]? = some v ∧ cs[3 + d]? = some (.int .i64 (S.sf d).length) ∧ cs[6]? = some (.bool S.down) ∧ cs[7]? = some (.int .i64 S.armed) ∧ cs.size = 8 ∧ Sb w v (S.sf d ++ S.lo d) := by
  obtain ⟨d0, d1, d2, hM, a0, a1, a2⟩ := h.heap
  obtain rfl | rfl | rfl : d = 0 ∨ d = 1 ∨ d = 2 := by omega
  · exact ⟨_, _, hM, rfl, rfl, rfl, rfl, rfl, a0⟩
  · exact ⟨_, _, hM, rfl, rfl, rfl, rfl, rfl, a1⟩
  · exact ⟨_, _, hM, rfl, rfl, rfl, rfl, rfl, a2⟩

set_option maxHeartbeats 400000 in
theorem rdown_any {w : World} {M : Nat} {S : St} (h : RefIs w M S) : Calls Try.prog 21 #[.pointer (some ⟨M, 0, none⟩)] w fun e w' => e = .returned (.bool S.down) ∧ w = w' := by
  obtain ⟨cs, v, hM, _, _, g6, g7, _, _⟩ := h.at (d := 0) (by omega)
  have c6 := cell_of_heap hM g6
  clear hM
  go_enter Try.func21, Try.ntmps21
  go_wp2
  go_ret
  exact ⟨rfl, rfl⟩

set_option maxHeartbeats 400000 in
theorem rread_any {w : World} {M : Nat} {S : St} (h : RefIs w M S) (disk : Int) :
    Calls Try.prog 35 #[.pointer (some ⟨M, 0, none⟩), .int .i64 disk] w fun e w' => ∃ v, e = .returned (.tuple #[v, .int .i64 (readE S disk).2]) ∧ Sb w' v (readE S disk).1 ∧ w = w' := by
  obtain ⟨cs, v, hM, _, _, g6, g7, _, _⟩ := h.at (d := 0) (by omega)
  have c6 := cell_of_heap hM g6
  clear hM
  by_cases hz : askE S disk = 0
  · have e0 : readE S disk = (S.sf disk.toNat ++ S.lo disk.toNat, 0) := by unfold readE; rw [if_pos hz]
    rw [e0]
    obtain ⟨hd, d, rfl, hd3⟩ := askE_zero hz
    obtain ⟨cs, v, hM, g1, _, _, _, _, hv⟩ := h.at hd3
    have c1 := cell_of_heap hM g1
    have hn2 : ¬ (2 : Int) < d := by omega
    rw [hd] at c6
    clear hM
    go_enter Try.func35, Try.ntmps35
    go_wp2
    go_ret2
    exact ⟨_, rfl, hv, rfl⟩
  · have e0 : readE S disk = ([], askE S disk) := by unfold readE; rw [if_neg hz]
    rw [e0]
    by_cases hd : S.down = true
    · have e1 : askE S disk = 101 := by simp [askE, hd]
      rw [e1]
      rw [hd] at c6
      go_enter Try.func35, Try.ntmps35
      go_wp2
      go_ret2
      exact ⟨_, rfl, Sb.nil _, rfl⟩
    · have hd' : S.down = false := by simpa using hd
      rw [hd'] at c6
      by_cases h0 : disk < 0
      · have e1 : askE S disk = 2 := by simp [askE, hd', h0]
        rw [e1]
        go_enter Try.func35, Try.ntmps35
        go_wp2
        go_ret2
        exact ⟨_, rfl, Sb.nil _, rfl⟩
      · have h2 : 2 < disk := by
          simp [askE, hd'] at hz; omega
        have e1 : askE S disk = 2 := by simp [askE, hd', h2]
        rw [e1]
        go_enter Try.func35, Try.ntmps35
        go_wp2
        go_ret2
        exact ⟨_, rfl, Sb.nil _, rfl⟩
end Go.Proofs.Ytlelbkljhbkjdaa
