import Derived.Test.YtlelbkljhbkjdaaB6
namespace Go.Proofs.Ytlelbkljhbkjdaa
open Go.RowKit Go.Kk

def armS (S : St) (n : Int) : St := { S with armed := max n 0 }

set_option maxHeartbeats 400000 in
theorem arm_any {w : World} {R D : Nat} {S : St} (h : RackIs w R D S) (n : Int) (hn : n ≤ 9223372036854775807) :
    Calls Try.prog 12 #[.pointer (some ⟨R, 0, none⟩), .int .i64 n] w fun e w' => e = .returned (.tuple #[]) ∧ RackIs w' R D (armS S n) ∧ Fr (fun k => k = R ∨ k = D) w w' := by
  obtain ⟨life, hR⟩ := h.rack
  have c1 := cell_of_heap (i := 1) hR rfl
  have f1 := frozen_of_heap (i := 1) hR
  have fin : ∀ x, max n 0 = x → RackIs (w.setCell ⟨R, 1, none⟩ (.int .i64 x)) R D (armS S n) ∧ Fr (fun k => k = R ∨ k = D) w (w.setCell ⟨R, 1, none⟩ (.int .i64 x)) := fun x hx => by
    have hf := (Fr.refl (· = R) w).setCell (a := ⟨R, 1, none⟩) rfl (.int .i64 x)
    unfold armS
    rw [hx]
    exact ⟨h.ofR hf (hset_same _ hR) (by omega), hf.mono fun k hk => .inl hk⟩
  have FIN := Lib.hid fin
  clear hR fin
  by_cases hp : n < 0
  · go_enter Try.func12, Try.ntmps12
    go_wp2_with (go_at_call 32; refine (none_any h).mono ?_; rintro e w1 ⟨rfl, rfl⟩)
    go_end0
    exact ⟨rfl, FIN.out _ (by omega)⟩
  · by_cases h0 : n = 0
    · subst h0
      go_enter Try.func12, Try.ntmps12
      go_wp2_with (go_at_call 32; refine (none_any h).mono ?_; rintro e w1 ⟨rfl, rfl⟩)
      go_end0
      exact ⟨rfl, FIN.out _ (by omega)⟩
    · have hlt : 0 < n := by omega
      go_enter Try.func12, Try.ntmps12
      go_wp2_with (go_at_call 32; refine (none_any h).mono ?_; rintro e w1 ⟨rfl, rfl⟩)
      go_end0
      exact ⟨rfl, FIN.out _ (by omega)⟩

def loseS (S : St) (disk : Int) : St := if disk < 0 ∨ 2 < disk then S else { S with sf := upd S.sf disk.toNat [], lo := upd S.lo disk.toNat [] }

set_option maxHeartbeats 400000 in
theorem lose_any {w : World} {R D : Nat} {S : St} (h : RackIs w R D S) (disk : Int) :
    Calls Try.prog 16 #[.pointer (some ⟨R, 0, none⟩), .int .i64 disk] w fun e w' => e = .returned (.tuple #[]) ∧ RackIs w' R D (loseS S disk) ∧ Fr (fun k => k = R ∨ k = D) w w' := by
  by_cases hr : disk < 0
  · have e0 : loseS S disk = S := by unfold loseS; rw [if_pos (.inl hr)]
    rw [e0]
    go_enter Try.func16, Try.ntmps16
    go_wp2_with (go_at_call 32; refine (none_any h).mono ?_; rintro e w1 ⟨rfl, rfl⟩)
    exact bodyPost_ret (results_none rfl _ _ _) rfl ⟨rfl, h, Fr.refl _ _⟩
  · by_cases hr2 : 2 < disk
    · have e0 : loseS S disk = S := by unfold loseS; rw [if_pos (.inr hr2)]
      rw [e0]
      go_enter Try.func16, Try.ntmps16
      go_wp2_with (go_at_call 32; refine (none_any h).mono ?_; rintro e w1 ⟨rfl, rfl⟩)
      exact bodyPost_ret (results_none rfl _ _ _) rfl ⟨rfl, h, Fr.refl _ _⟩
    · obtain ⟨d, rfl⟩ : ∃ d : Nat, disk = d := ⟨disk.toNat, by omega⟩
      have hd3 : d < 3 := by omega
      have e0 : loseS S d = { S with sf := upd S.sf d [], lo := upd S.lo d [] } := by unfold loseS; rw [if_neg (by omega)]; rfl
      rw [e0]
      obtain ⟨life, hR⟩ := h.rack
      obtain ⟨cs, v1, v2, hD, g1, g2, hsz, hx, hy⟩ := h.at hd3
      have hne := h.ne
      have fin : ∀ x, RackIs (((w.setCell ⟨D, d * 2, none⟩ (.slice none 0 0)).setCell ⟨D, d * 2 + 1, none⟩ (.slice none 0 0)).setCell ⟨R, 3, none⟩ (.int .i64 x)) R D { S with sf := upd S.sf d [], lo := upd S.lo d [] } ∧
          Fr (fun k => k = R ∨ k = D) w (((w.setCell ⟨D, d * 2, none⟩ (.slice none 0 0)).setCell ⟨D, d * 2 + 1, none⟩ (.slice none 0 0)).setCell ⟨R, 3, none⟩ (.int .i64 x)) := fun x => by
        obtain ⟨hf, hh, hs⟩ := two_sets (u := .slice none 0 0) (v := .slice none 0 0) (i := d * 2) (j := d * 2 + 1) (Fr.refl _ w) hD (Sb.nil w)
        have h1 := h.ofD hf hd3 hD hh hs hs (by simp)
        have hf2 := (Fr.refl (· = R) ((w.setCell ⟨D, d * 2, none⟩ (.slice none 0 0)).setCell ⟨D, d * 2 + 1, none⟩ (.slice none 0 0))).setCell (a := ⟨R, 3, none⟩) rfl (.int .i64 x)
        have hR2 := (hf.block R (heap_lt hR) hne).trans hR
        exact ⟨h1.ofR hf2 (hset_same _ hR2) h.armed, (hf.mono fun k hk => .inr hk).trans (hf2.mono fun k hk => .inl hk)⟩
      have FIN := Lib.hid fin
      have c0 := cell_of_heap (i := 0) hR rfl
      have c3 := cell_of_heap (i := 3) hR rfl
      have f3 := frozen_of_heap (i := 3) hR
      have cA := cell_of_heap hD g1
      have cB := cell_of_heap hD g2
      have fA := frozen_of_heap (i := d * 2) hD
      have fB := frozen_of_heap (i := d * 2 + 1) hD
      clear hR hD fin
      go_enter Try.func16, Try.ntmps16
      go_wp2_with (go_at_call 32; refine (none_any h).mono ?_; rintro e w1 ⟨rfl, rfl⟩)
      go_end0
      exact ⟨rfl, FIN.out _⟩
end Go.Proofs.Ytlelbkljhbkjdaa
