import Derived.Test.YtlelbkljhbkjdaaB0
namespace Go.Proofs.Ytlelbkljhbkjdaa
open Go.RowKit Go.Kk

/-- bytes as cells -/
def B8 (bs : List UInt8) : List Value := bs.map fun b => .int .u8 b.toNat
theorem B8_append (a b : List UInt8) : B8 (a ++ b) = B8 a ++ B8 b := by simp [B8]
theorem B8_length (a : List UInt8) : (B8 a).length = a.length := by simp [B8]
theorem B8_take (a : List UInt8) (n : Nat) : B8 (a.take n) = (B8 a).take n := by simp [B8, List.map_take]
theorem B8_one (a : List UInt8) : ∀ u ∈ B8 a, u.oneCell' = true := by
  intro u hu
  obtain ⟨b, _, rfl⟩ := List.mem_map.1 hu
  rfl
theorem B8_nil : B8 [] = [] := rfl

/-- v is a slice over a row of bytes that reads as bs -/
def Sb (w : World) (v : Value) (bs : List UInt8) : Prop :=
  (v = .slice none 0 0 ∧ bs = []) ∨ ∃ g off cap c fr, v = .slice (some ⟨g, off, none⟩) bs.length cap ∧ bs.length ≤ cap ∧ w.heap[g]? = some (.cells c 5 fr) ∧ ∀ j u, (B8 bs)[j]? = some u → c[off + j]? = some u

theorem Sb.nil (w : World) : Sb w (.slice none 0 0) [] := .inl ⟨rfl, rfl⟩
theorem Sb.sl {w : World} {v : Value} {bs : List UInt8} (h : Sb w v bs) : Sl w 1 v bs.length (B8 bs) := by
  refine ⟨by rw [B8_length]; omega, ?_⟩
  rcases h with ⟨rfl, rfl⟩ | ⟨g, off, cap, c, fr, rfl, hc, hg, hx⟩
  · exact .inl ⟨rfl, rfl⟩
  · exact .inr (.inl ⟨g, off, cap, rfl, hc, fun j u hu => cell_of_heap hg (hx j u hu)⟩)
theorem Sb.shape {w : World} {v : Value} {bs : List UInt8} (h : Sb w v bs) : ∃ base cap, v = .slice base bs.length cap := by
  rcases h with ⟨rfl, rfl⟩ | ⟨g, off, cap, c, fr, rfl, _⟩
  · exact ⟨_, _, rfl⟩
  · exact ⟨_, _, rfl⟩
theorem Sb.of_own {w : World} {B n : Nat} {v : Value} {bs : List UInt8} (h : w.ownsRow B 5 1 v n (B8 bs)) : Sb w v bs := by
  have hn : bs.length = n := by have := h.1; rw [B8_length] at this; omega
  rcases h.2 with ⟨rfl, rfl⟩ | ⟨g, cap, cur, rfl, hb, hg, hnc, _, _, ht⟩
  · exact .inl ⟨rfl, List.eq_nil_of_length_eq_zero hn⟩
  · refine .inr ⟨g, 0, cap, cur, (0, 0), by rw [hn], by omega, hg, fun j u hu => ?_⟩
    rw [← ht, List.getElem?_take] at hu
    split at hu
    · simpa using hu
    · cases hu
/-- rows of bytes stay -/
def Byt (w w' : World) : Prop := ∀ (g : Nat) (c : Array Value) (fr : Nat × Nat), w.heap[g]? = some (.cells c 5 fr) → w'.heap[g]? = some (.cells c 5 fr)
theorem Sb.byt {w w' : World} {v : Value} {bs : List UInt8} (h : Sb w v bs) (k : Byt w w') : Sb w' v bs := by
  rcases h with h | ⟨g, off, cap, c, fr, hv, hc, hg, hx⟩
  · exact .inl h
  · exact .inr ⟨g, off, cap, c, fr, hv, hc, k _ _ _ hg, hx⟩
theorem Byt.refl (w : World) : Byt w w := fun _ _ _ h => h
theorem Byt.trans {a b c : World} (h : Byt a b) (k : Byt b c) : Byt a c := fun g x y hg => k g x y (h g x y hg)
theorem Byt.of_fr {S : Nat → Prop} {w w' : World} (h : Fr S w w') (hs : ∀ k, S k → ∀ c fr, w.heap[k]? ≠ some (.cells c 5 fr)) : Byt w w' := fun g c fr hg => by
  rw [h.block g (heap_lt hg) (fun x => hs g x c fr hg)]; exact hg
theorem Byt.of_below {w w' : World} (h : Below w.heap.size w w') : Byt w w' := fun g c fr hg => by rw [h.block g (heap_lt hg)]; exact hg

/-- the state of a rack -/
structure St where
  sf : Nat → List UInt8
  lo : Nat → List UInt8
  down : Bool
  armed : Int

def upd {α : Type} (f : Nat → α) (d : Nat) (x : α) : Nat → α := fun k => if k = d then x else f k

/-- the program's rack -/
structure RackIs (w : World) (R D : Nat) (S : St) : Prop where
  rack : ∃ life, w.heap[R]? = some (.cells #[.pointer (some ⟨D, 0, none⟩), .int .i64 S.armed, .bool S.down, .int .i64 life] 50 (0, 0))
  disks : ∃ s0 l0 s1 l1 s2 l2, w.heap[D]? = some (.cells #[s0, l0, s1, l1, s2, l2] 48 (0, 0)) ∧ Sb w s0 (S.sf 0) ∧ Sb w l0 (S.lo 0) ∧ Sb w s1 (S.sf 1) ∧ Sb w l1 (S.lo 1) ∧ Sb w s2 (S.sf 2) ∧ Sb w l2 (S.lo 2)
  bound : ∀ d, d < 3 → (S.sf d).length + (S.lo d).length ≤ 100000
  armed : 0 ≤ S.armed ∧ S.armed ≤ 9223372036854775807

theorem RackIs.ne {w : World} {R D : Nat} {S : St} (h : RackIs w R D S) : R ≠ D := by
  obtain ⟨_, h1⟩ := h.rack
  obtain ⟨_, _, _, _, _, _, h2, _⟩ := h.disks
  rintro rfl
  rw [h1] at h2
  simp at h2

set_option maxHeartbeats 400000 in
theorem none_any {w : World} {R D : Nat} {S : St} (h : RackIs w R D S) : Calls Try.prog 32 #[.pointer (some ⟨R, 0, none⟩)] w fun e w' => e = .returned (.bool false) ∧ w = w' := by
  obtain ⟨life, hR⟩ := h.rack
  have c0 := cell_of_heap (i := 0) hR rfl
  clear hR h
  go_enter Try.func32, Try.ntmps32
  go_wp2
  go_ret
  exact ⟨rfl, rfl⟩

set_option maxHeartbeats 400000 in
theorem down_any {w : World} {R D : Nat} {S : St} (h : RackIs w R D S) : Calls Try.prog 20 #[.pointer (some ⟨R, 0, none⟩)] w fun e w' => e = .returned (.bool S.down) ∧ w = w' := by
  obtain ⟨life, hR⟩ := h.rack
  have c2 := cell_of_heap (i := 2) hR rfl
  clear hR
  go_enter Try.func20, Try.ntmps20
  go_wp2_with (go_at_call 32; refine (none_any h).mono ?_; rintro e w' ⟨rfl, rfl⟩)
  go_ret
  exact ⟨rfl, rfl⟩

/-- the error of a call for a disk -/
def askE (S : St) (disk : Int) : Int := if S.down then 101 else if disk < 0 ∨ 2 < disk then 2 else 0

set_option maxHeartbeats 400000 in
theorem asked_any {w : World} {R D : Nat} {S : St} (h : RackIs w R D S) (disk : Int) : Calls Try.prog 24 #[.pointer (some ⟨R, 0, none⟩), .int .i64 disk] w fun e w' => e = .returned (.int .i64 (askE S disk)) ∧ w = w' := by
  by_cases hd : S.down = true
  · have e0 : askE S disk = 101 := by simp [askE, hd]
    rw [e0]
    go_enter Try.func24, Try.ntmps24
    go_wp2_with (go_at_call 20; refine (down_any h).mono ?_; rintro e w' ⟨rfl, rfl⟩)
    go_ret
    exact ⟨rfl, rfl⟩
  · have hd' : S.down = false := by simpa using hd
    by_cases h0 : disk < 0
    · have e0 : askE S disk = 2 := by simp [askE, hd', h0]
      rw [e0]
      go_enter Try.func24, Try.ntmps24
      go_wp2_with (go_at_call 20; refine (down_any h).mono ?_; rintro e w' ⟨rfl, rfl⟩)
      go_ret
      exact ⟨rfl, rfl⟩
    · by_cases h2 : 2 < disk
      · have e0 : askE S disk = 2 := by simp [askE, hd', h2]
        rw [e0]
        go_enter Try.func24, Try.ntmps24
        go_wp2_with (go_at_call 20; refine (down_any h).mono ?_; rintro e w' ⟨rfl, rfl⟩)
        go_ret
        exact ⟨rfl, rfl⟩
      · have e0 : askE S disk = 0 := by simp [askE, hd']; omega
        rw [e0]
        go_enter Try.func24, Try.ntmps24
        go_wp2_with (go_at_call 20; refine (down_any h).mono ?_; rintro e w' ⟨rfl, rfl⟩)
        go_ret
        exact ⟨rfl, rfl⟩
end Go.Proofs.Ytlelbkljhbkjdaa
