import Derived.Test.YtlelbkljhbkjdaaB3
namespace Go.Proofs.Ytlelbkljhbkjdaa
open Go.RowKit Go.Kk

theorem RackIs.byt {w w1 : World} {R D : Nat} {S : St} (h : RackIs w R D S) {T : Nat → Prop} (hf : Fr T w w1) (ht : ∀ k, T k → k = R ∨ k = D) : Byt w w1 := by
  obtain ⟨life, hR⟩ := h.rack
  obtain ⟨s0, l0, s1, l1, s2, l2, hD, _⟩ := h.disks
  refine Byt.of_fr hf fun k hk c fr => ?_
  rcases ht k hk with rfl | rfl
  · rw [hR]; simp
  · rw [hD]; simp

/-- the rack's own block has changed -/
theorem RackIs.ofR {w w1 : World} {R D : Nat} {S : St} (h : RackIs w R D S) (hf : Fr (· = R) w w1) {armed life : Int} {down : Bool}
    (hR : w1.heap[R]? = some (.cells #[.pointer (some ⟨D, 0, none⟩), .int .i64 armed, .bool down, .int .i64 life] 50 (0, 0))) (ha : 0 ≤ armed ∧ armed ≤ 9223372036854775807) :
    RackIs w1 R D { S with armed := armed, down := down } := by
  have hb := h.byt hf (fun k hk => .inl hk)
  have hne := h.ne
  obtain ⟨s0, l0, s1, l1, s2, l2, hD, a0, b0, a1, b1, a2, b2⟩ := h.disks
  exact ⟨⟨life, hR⟩, ⟨s0, l0, s1, l1, s2, l2, (hf.block D (heap_lt hD) (fun e => hne e.symm)).trans hD, a0.byt hb, b0.byt hb, a1.byt hb, b1.byt hb, a2.byt hb, b2.byt hb⟩, h.bound, ha⟩

/-- the calls that go on -/
def tick (S : St) : St := { S with armed := max (S.armed - 1) 0 }
/-- the power fails -/
def cut (S : St) : St := { S with armed := 0, down := true }

set_option maxHeartbeats 400000 in
theorem change_cut {w : World} {R D : Nat} {S : St} (h : RackIs w R D S) (ha : S.armed = 1) (disk f : Value) :
    Calls Try.prog 25 #[.pointer (some ⟨R, 0, none⟩), disk, f] w fun e w' => e = .returned (.int .i64 101) ∧ RackIs w' R D (cut S) ∧ Fr (fun k => k = R ∨ k = D) w w' := by
  have h' := h
  obtain ⟨life, hR⟩ := h.rack
  rw [ha] at hR
  have c0 := cell_of_heap (i := 0) hR rfl
  have c1 := cell_of_heap (i := 1) hR rfl
  have c2 := cell_of_heap (i := 2) hR rfl
  have f1 := frozen_of_heap (i := 1) hR
  have f2 := frozen_of_heap (i := 2) hR
  have HR := Lib.hid hR
  clear hR h
  have HA := Lib.hid ha
  clear ha
  go_enter Try.func25, Try.ntmps25
  go_wp2
  go_ret
  have hf := ((Fr.refl (· = R) w).setCell (a := ⟨R, 1, none⟩) rfl (.int .i64 0)).setCell (a := ⟨R, 2, none⟩) rfl (.bool true)
  refine ⟨rfl, ?_, hf.mono fun k hk => .inl hk⟩
  exact h'.ofR hf (hset_same _ (hset_same _ HR.out)) (by omega)

theorem tick_rack {w : World} {R D : Nat} {S : St} (h : RackIs w R D S) (x y : Int) (hy : max (S.armed - 1) 0 = y) :
    Fr (· = R) w ((w.setCell ⟨R, 1, none⟩ (.int .i64 x)).setCell ⟨R, 1, none⟩ (.int .i64 y)) ∧ RackIs ((w.setCell ⟨R, 1, none⟩ (.int .i64 x)).setCell ⟨R, 1, none⟩ (.int .i64 y)) R D (tick S) := by
  obtain ⟨life, hR⟩ := h.rack
  have hf := ((Fr.refl (· = R) w).setCell (a := ⟨R, 1, none⟩) rfl (.int .i64 x)).setCell (a := ⟨R, 1, none⟩) rfl (.int .i64 y)
  have := h.armed
  refine ⟨hf, ?_⟩
  unfold tick
  rw [hy]
  exact h.ofR hf (hset_same _ (hset_same _ hR)) (by omega)

set_option maxHeartbeats 1000000 in
theorem change_26 {w : World} {R D : Nat} {S : St} (h : RackIs w R D S) (ha : S.armed ≠ 1) (d : Nat) (hd : d < 3) (c : Addr) (Post : World → Prop)
    (hcall : ∀ w1, Fr (· = R) w w1 → RackIs w1 R D (tick S) → Calls Try.prog 26 #[.pointer (some ⟨D, d * 2, none⟩), .pointer (some c)] w1 fun e w' => e = .returned (.tuple #[]) ∧ Post w') :
    Calls Try.prog 25 #[.pointer (some ⟨R, 0, none⟩), .int .i64 d, .func (.func 26) #[] #[.pointer (some c)]] w fun e w' => e = .returned (.int .i64 0) ∧ Post w' := by
  obtain ⟨life, hR⟩ := h.rack
  have hne := h.ne
  have c0 := cell_of_heap (i := 0) hR rfl
  have c1 := cell_of_heap (i := 1) hR rfl
  have f1 := frozen_of_heap (i := 1) hR
  have hb := h.armed
  have hz : (S.armed - 1 == 0) = false := by
    rw [beq_eq_false_iff_ne]; omega
  clear hR
  by_cases hp : S.armed = 0
  · have hc := fun x => hcall _ (tick_rack h x 0 (by omega)).1 (tick_rack h x 0 (by omega)).2
    have HC := Lib.hid hc
    have hlt : S.armed - 1 < 0 := by omega
    clear hc hcall h hp
    go_enter Try.func25, Try.ntmps25
    go_wp2_with (go_at_call 26; refine (HC.out _).mono ?_; rintro e w2 ⟨rfl, hpost⟩)
    go_ret
    exact ⟨rfl, hpost⟩
  · have hc := fun x => hcall _ (tick_rack h x (S.armed - 1) (by omega)).1 (tick_rack h x (S.armed - 1) (by omega)).2
    have HC := Lib.hid hc
    have hlt : 0 < S.armed - 1 := by omega
    clear hc hcall h hp
    go_enter Try.func25, Try.ntmps25
    go_wp2_with (go_at_call 26; refine (HC.out _).mono ?_; rintro e w2 ⟨rfl, hpost⟩)
    go_ret
    exact ⟨rfl, hpost⟩

set_option maxHeartbeats 1000000 in
theorem change_29 {w : World} {R D : Nat} {S : St} (h : RackIs w R D S) (ha : S.armed ≠ 1) (d : Nat) (hd : d < 3)  (Post : World → Prop)
    (hcall : ∀ w1, Fr (· = R) w w1 → RackIs w1 R D (tick S) → Calls Try.prog 29 #[.pointer (some ⟨D, d * 2, none⟩)] w1 fun e w' => e = .returned (.tuple #[]) ∧ Post w') :
    Calls Try.prog 25 #[.pointer (some ⟨R, 0, none⟩), .int .i64 d, .func (.func 29) #[] #[]] w fun e w' => e = .returned (.int .i64 0) ∧ Post w' := by
  obtain ⟨life, hR⟩ := h.rack
  have hne := h.ne
  have c0 := cell_of_heap (i := 0) hR rfl
  have c1 := cell_of_heap (i := 1) hR rfl
  have f1 := frozen_of_heap (i := 1) hR
  have hb := h.armed
  have hz : (S.armed - 1 == 0) = false := by
    rw [beq_eq_false_iff_ne]; omega
  clear hR
  by_cases hp : S.armed = 0
  · have hc := fun x => hcall _ (tick_rack h x 0 (by omega)).1 (tick_rack h x 0 (by omega)).2
    have HC := Lib.hid hc
    have hlt : S.armed - 1 < 0 := by omega
    clear hc hcall h hp
    go_enter Try.func25, Try.ntmps25
    go_wp2_with (go_at_call 29; refine (HC.out _).mono ?_; rintro e w2 ⟨rfl, hpost⟩)
    go_ret
    exact ⟨rfl, hpost⟩
  · have hc := fun x => hcall _ (tick_rack h x (S.armed - 1) (by omega)).1 (tick_rack h x (S.armed - 1) (by omega)).2
    have HC := Lib.hid hc
    have hlt : 0 < S.armed - 1 := by omega
    clear hc hcall h hp
    go_enter Try.func25, Try.ntmps25
    go_wp2_with (go_at_call 29; refine (HC.out _).mono ?_; rintro e w2 ⟨rfl, hpost⟩)
    go_ret
    exact ⟨rfl, hpost⟩

set_option maxHeartbeats 1000000 in
theorem change_31 {w : World} {R D : Nat} {S : St} (h : RackIs w R D S) (ha : S.armed ≠ 1) (d : Nat) (hd : d < 3) (c c2 : Addr) (Post : World → Prop)
    (hcall : ∀ w1, Fr (· = R) w w1 → RackIs w1 R D (tick S) → Calls Try.prog 31 #[.pointer (some ⟨D, d * 2, none⟩), .pointer (some c), .pointer (some c2)] w1 fun e w' => e = .returned (.tuple #[]) ∧ Post w') :
    Calls Try.prog 25 #[.pointer (some ⟨R, 0, none⟩), .int .i64 d, .func (.func 31) #[] #[.pointer (some c), .pointer (some c2)]] w fun e w' => e = .returned (.int .i64 0) ∧ Post w' := by
  obtain ⟨life, hR⟩ := h.rack
  have hne := h.ne
  have c0 := cell_of_heap (i := 0) hR rfl
  have c1 := cell_of_heap (i := 1) hR rfl
  have f1 := frozen_of_heap (i := 1) hR
  have hb := h.armed
  have hz : (S.armed - 1 == 0) = false := by
    rw [beq_eq_false_iff_ne]; omega
  clear hR
  by_cases hp : S.armed = 0
  · have hc := fun x => hcall _ (tick_rack h x 0 (by omega)).1 (tick_rack h x 0 (by omega)).2
    have HC := Lib.hid hc
    have hlt : S.armed - 1 < 0 := by omega
    clear hc hcall h hp
    go_enter Try.func25, Try.ntmps25
    go_wp2_with (go_at_call 31; refine (HC.out _).mono ?_; rintro e w2 ⟨rfl, hpost⟩)
    go_ret
    exact ⟨rfl, hpost⟩
  · have hc := fun x => hcall _ (tick_rack h x (S.armed - 1) (by omega)).1 (tick_rack h x (S.armed - 1) (by omega)).2
    have HC := Lib.hid hc
    have hlt : 0 < S.armed - 1 := by omega
    clear hc hcall h hp
    go_enter Try.func25, Try.ntmps25
    go_wp2_with (go_at_call 31; refine (HC.out _).mono ?_; rintro e w2 ⟨rfl, hpost⟩)
    go_ret
    exact ⟨rfl, hpost⟩

end Go.Proofs.Ytlelbkljhbkjdaa
