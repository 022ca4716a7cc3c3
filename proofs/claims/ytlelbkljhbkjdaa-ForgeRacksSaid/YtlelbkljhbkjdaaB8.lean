import Derived.Test.YtlelbkljhbkjdaaB7
namespace Go.Proofs.Ytlelbkljhbkjdaa
open Go.RowKit Go.Kk

def readE (S : St) (disk : Int) : List UInt8 × Int := if askE S disk = 0 then (S.sf disk.toNat ++ S.lo disk.toNat, 0) else ([], askE S disk)

set_option maxHeartbeats 400000 in
theorem read_any {w : World} {R D : Nat} {S : St} (h : RackIs w R D S) (disk : Int) :
    Calls Try.prog 34 #[.pointer (some ⟨R, 0, none⟩), .int .i64 disk] w fun e w' => ∃ v, e = .returned (.tuple #[v, .int .i64 (readE S disk).2]) ∧ Sb w' v (readE S disk).1 ∧ Below w.heap.size w w' := by
  by_cases hz : askE S disk = 0
  · have e0 : readE S disk = (S.sf disk.toNat ++ S.lo disk.toNat, 0) := by unfold readE; rw [if_pos hz]
    rw [e0]
    obtain ⟨hd, d, rfl, hd3⟩ := askE_zero hz
    have hne : (askE S d != 0) = false := by simp [hz]
    obtain ⟨life, hR⟩ := h.rack
    have c0 := cell_of_heap (i := 0) hR rfl
    obtain ⟨cs, v1, v2, hD, g1, g2, hsz, hx, hy⟩ := h.at hd3
    have hbd := h.bound d hd3
    have cA := cell_of_heap hD g1
    have cB := cell_of_heap hD g2
    clear hR hD
    go_enter Try.func34, Try.ntmps34
    go_wp2_with (first | (go_at_call 24; refine (asked_any h _).mono ?_; rintro e w1 ⟨rfl, rfl⟩) | (go_at_call 30; refine (all_any hx hy (by omega)).mono ?_; rintro e w1 ⟨v, rfl, hown, hbel⟩))
    go_ret2
    exact ⟨_, rfl, Sb.of_own hown, hbel⟩
  · have e0 : readE S disk = ([], askE S disk) := by unfold readE; rw [if_neg hz]
    rw [e0]
    have hne : (askE S disk != 0) = true := by simpa using hz
    go_enter Try.func34, Try.ntmps34
    go_wp2_with (first | (go_at_call 24; refine (asked_any h _).mono ?_; rintro e w1 ⟨rfl, rfl⟩))
    go_ret2
    exact ⟨_, rfl, Sb.nil _, Below.refl _ _⟩

set_option maxHeartbeats 400000 in
theorem clone_any {w : World} {v : Value} {bs : List UInt8} (h : Sb w v bs) (hn : bs.length ≤ 1000000) :
    Calls Try.prog 33 #[v] w fun e w' => ∃ v', e = .returned v' ∧ Sb w' v' bs ∧ Below w.heap.size w w' := by
  have hs := h.sl
  rcases h with ⟨rfl, rfl⟩ | ⟨g, off, cap, c, fr, rfl, hc, hg, hx⟩
  · have he := fun w => Lib.run_eql_slice_nil_nil (P := Try.prog) w (t := 27) (e := 5) 0 0 (by kernel_rfl)
    go_enter Try.func33, Try.ntmps33
    go_wp2
    go_ret
    exact ⟨_, rfl, Sb.nil _, Below.refl _ _⟩
  · have hsl := hs.keeps (Keeps.of_below (below_alloc w (.cells #[] 5)))
    have hown := World.ownsRow_made (base := w.heap.size) (size := 1) (e := 5) w #[] 0 (Nat.le_refl _) (by decide) rfl
    have he := fun w => Lib.run_eql_slice_some_nil (P := Try.prog) w (t := 27) (e := 5) ⟨g, off, none⟩ bs.length cap (by kernel_rfl)
    clear hg hx hs
    go_enter Try.func33, Try.ntmps33
    go_wp2_with (at_builtin; refine wpList_append rfl _ _ _ rfl T27 rfl hown rfl hsl (B8_one _) (by unfold maxLen; omega) (by omega) (by simp) ?_; intro v' w' hown' hg)
    go_ret
    exact ⟨_, rfl, Sb.of_own (n := 0 + bs.length) (by simpa using hown'), (below_alloc _ _).grown hg (by simp) (fun k hk => (hown.lt k hk).1)⟩

/-- the state of a copy of which the first k disks are done -/
def partS (S : St) (k : Nat) : St := { S with sf := fun d => if d < k then S.sf d else [], lo := fun d => if d < k then S.lo d else [] }
theorem partS_succ (S : St) (k : Nat) : partS S (k + 1) = { partS S k with sf := upd (partS S k).sf k (S.sf k), lo := upd (partS S k).lo k (S.lo k) } := by
  unfold partS upd
  simp only [St.mk.injEq, and_true]
  constructor
  · funext d
    by_cases h : d = k
    · simp [h]
    · by_cases h2 : d < k
      · simp [h, h2]; omega
      · simp [h, h2]; omega
  · funext d
    by_cases h : d = k
    · simp [h]
    · by_cases h2 : d < k
      · simp [h, h2]; omega
      · simp [h, h2]; omega

end Go.Proofs.Ytlelbkljhbkjdaa
