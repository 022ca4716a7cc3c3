import Derived.Test.YtlelbkljhbkjdaaB5
namespace Go.Proofs.Ytlelbkljhbkjdaa
open Go.RowKit Go.Kk

theorem askE_zero {S : St} {disk : Int} (h : askE S disk = 0) : S.down = false ∧ ∃ d : Nat, disk = d ∧ d < 3 := by
  unfold askE at h
  by_cases hd : S.down = true
  · simp [hd] at h
  · by_cases h0 : disk < 0 ∨ 2 < disk
    · simp [hd, h0] at h
    · exact ⟨by simpa using hd, disk.toNat, by omega, by omega⟩
theorem doneE_ask {S : St} {disk : Int} (h : askE S disk ≠ 0) (ok : Bool) (g : St) : doneE S disk ok g = (askE S disk, S) := by
  unfold doneE askE at *
  split
  · rfl
  · rename_i hd
    rw [if_neg hd] at h
    by_cases h0 : disk < 0 ∨ 2 < disk
    · rw [if_pos h0, if_pos (h0.elim .inl fun h => .inr (.inl h))]
    · simp [h0] at h
theorem doneE_cut {S : St} {d : Nat} (hd : S.down = false) (h3 : d < 3) (ha : S.armed = 1) (g : St) : doneE S d true g = (101, cut S) := by
  unfold doneE; rw [if_neg (by simp [hd]), if_neg (by simp; omega), if_pos ha]
theorem doneE_ok {S : St} {d : Nat} (hd : S.down = false) (h3 : d < 3) (ha : ¬ S.armed = 1) (g : St) : doneE S d true g = (0, g) := by
  unfold doneE; rw [if_neg (by simp [hd]), if_neg (by simp; omega), if_neg ha]
theorem doneE_arg {S : St} {d : Nat} (hd : S.down = false) (g : St) : doneE S d false g = (2, S) := by
  unfold doneE; rw [if_neg (by rw [hd]; decide), if_pos (by right; right; rfl)]

set_option maxHeartbeats 1000000 in
theorem sync_any {w : World} {R D : Nat} {S : St} (h : RackIs w R D S) (disk : Int) :
    Calls Try.prog 8 #[.pointer (some ⟨R, 0, none⟩), .int .i64 disk] w fun e w' =>
      e = .returned (.int .i64 (doneE S disk true (syncS S disk.toNat)).1) ∧ RackIs w' R D (doneE S disk true (syncS S disk.toNat)).2 ∧ Fr (fun k => k = R ∨ k = D) w w' := by
  by_cases hz : askE S disk = 0
  · obtain ⟨hd, d, rfl, hd3⟩ := askE_zero hz
    have hne : (askE S d != 0) = false := by simp [hz]
    by_cases ha : S.armed = 1
    · rw [doneE_cut hd hd3 ha]
      go_enter Try.func8, Try.ntmps8
      go_wp2_with (first | (go_at_call 24; refine (asked_any h _).mono ?_; rintro e w1 ⟨rfl, rfl⟩) | (go_at_call 25; refine (change_cut h ha _ _).mono ?_; rintro e w1 ⟨rfl, hr, hf⟩))
      go_ret
      exact ⟨rfl, hr, hf⟩
    · rw [doneE_ok hd hd3 ha]
      have hch := change_29 h ha d hd3  (fun w' => RackIs w' R D (syncS S d) ∧ Fr (fun k => k = R ∨ k = D) w w') (by
        intro w1 hf hr
        obtain ⟨cs, v1, v2, hD, g1, g2, hsz, hx, hy⟩ := hr.at hd3
        have hbd := hr.bound d hd3
        refine (sync1 D (d * 2) w1 cs v1 v2 _ _ hD g1 g2 hx hy (by omega)).mono ?_
        rintro e w2 ⟨rfl, v3, hf2, hD2, hs⟩
        refine ⟨rfl, ?_, (hf.mono fun k hk => .inl hk).trans (hf2.mono fun k hk => .inr hk)⟩
        exact hr.ofD hf2 hd3 (v1 := v3) (v2 := .slice none 0 0) (xs := S.sf d ++ S.lo d) (ys := []) hD hD2 hs (Sb.nil _) (by simp only [List.length_append, List.length_nil]; exact hbd))
      have HC := Lib.hid hch
      clear hch
      go_enter Try.func8, Try.ntmps8
      go_wp2_with (first | (go_at_call 24; refine (asked_any h _).mono ?_; rintro e w1 ⟨rfl, rfl⟩) | (go_at_call 25; refine HC.out.mono ?_; rintro e w1 ⟨rfl, hr, hf⟩))
      go_ret
      exact ⟨rfl, hr, hf⟩
  · rw [doneE_ask hz]
    have hne : (askE S disk != 0) = true := by simpa using hz
    go_enter Try.func8, Try.ntmps8
    go_wp2_with (go_at_call 24; refine (asked_any h _).mono ?_; rintro e w1 ⟨rfl, rfl⟩)
    go_ret
    exact ⟨rfl, h, Fr.refl _ _⟩

theorem trim_call {w : World} {R D : Nat} {S : St} (h : RackIs w R D S) (ha : S.armed ≠ 1) (d n a b : Nat) (hd3 : d < 3) (v : Value) (h1 : w.cell? ⟨a, 0, none⟩ = some v) (h2 : w.cell? ⟨b, 0, none⟩ = some (.int .i64 n))
    (hv : Sb w v (S.sf d ++ S.lo d)) (hn : n ≤ (S.sf d).length + (S.lo d).length) (na : a ≠ R) (nb : b ≠ R) :
    Calls Try.prog 25 #[.pointer (some ⟨R, 0, none⟩), .int .i64 d, .func (.func 31) #[] #[.pointer (some ⟨a, 0, none⟩), .pointer (some ⟨b, 0, none⟩)]] w fun e w' => e = .returned (.int .i64 0) ∧
      RackIs w' R D (trimS S d n) ∧ Fr (fun k => k = R ∨ k = D) w w' := by
  refine change_31 h ha d hd3 ⟨a, 0, none⟩ ⟨b, 0, none⟩ (fun w' => RackIs w' R D (trimS S d n) ∧ Fr (fun k => k = R ∨ k = D) w w') ?_
  intro w1 hf hr
  obtain ⟨cs, v1, v2, hD, g1, g2, hsz, hx, hy⟩ := hr.at hd3
  have hbd : (S.sf d).length + (S.lo d).length ≤ 100000 := hr.bound d hd3
  refine (trim1 D (d * 2) a b n w1 cs v1 v2 v _ hD g1 g2 (hf.cell h1 na) (hf.cell h2 nb) (hv.byt (h.byt hf fun k hk => .inl hk)) (by simpa using hn) (by simp; omega)).mono ?_
  rintro e w2 ⟨rfl, v3, hf2, hD2, hs⟩
  refine ⟨rfl, ?_, (hf.mono fun k hk => .inl hk).trans (hf2.mono fun k hk => .inr hk)⟩
  exact hr.ofD hf2 hd3 (v1 := v3) (v2 := .slice none 0 0) (ys := []) hD hD2 hs (Sb.nil _) (by simp only [List.length_take, List.length_append, List.length_nil]; omega)

/-- whether a number of bytes can be left -/
def trimOk (S : St) (d : Nat) (n : Int) : Bool := decide (0 ≤ n ∧ n ≤ (S.sf d).length + (S.lo d).length)

set_option maxHeartbeats 1000000 in
theorem trim_any {w : World} {R D : Nat} {S : St} (h : RackIs w R D S) (disk n : Int) :
    Calls Try.prog 10 #[.pointer (some ⟨R, 0, none⟩), .int .i64 disk, .int .i64 n] w fun e w' =>
      e = .returned (.int .i64 (doneE S disk (trimOk S disk.toNat n) (trimS S disk.toNat n.toNat)).1) ∧ RackIs w' R D (doneE S disk (trimOk S disk.toNat n) (trimS S disk.toNat n.toNat)).2 ∧ Fr (fun k => k = R ∨ k = D) w w' := by
  have hal := fun x => h.below (below_alloc w x)
  by_cases hz : askE S disk = 0
  · obtain ⟨hd, d, rfl, hd3⟩ := askE_zero hz
    have hne : (askE S d != 0) = false := by simp [hz]
    obtain ⟨life, hR⟩ := h.rack
    have c0 : ∀ x, (w.alloc x).cell? ⟨R, 0, none⟩ = some (.pointer (some ⟨D, 0, none⟩)) := fun x => Keeps.of_below (below_alloc w x) _ _ (cell_of_heap (i := 0) hR rfl)
    obtain ⟨cs, v1, v2, hD, g1, g2, hsz, hx, hy⟩ := h.at hd3
    have hbd := h.bound d hd3
    have cA := fun x => Keeps.of_below (below_alloc w x) _ _ (cell_of_heap hD g1)
    have cB := fun x => Keeps.of_below (below_alloc w x) _ _ (cell_of_heap hD g2)
    have cN := fun n' : Value => newA w w.heap.size #[n'] 3 0 _ rfl rfl
    have hDs := heap_lt hD
    have hRs := heap_lt hR
    clear hR hD
    have hxb := fun x => hx.byt (Byt.of_below (below_alloc w x))
    have hyb := fun x => hy.byt (Byt.of_below (below_alloc w x))
    obtain ⟨b1, k1, rfl⟩ := hx.shape
    obtain ⟨b2, k2, rfl⟩ := hy.shape
    by_cases ho : trimOk S d n = true
    · have hoo : trimOk S (d : Int).toNat n = true := ho
      obtain ⟨hn0, hn1⟩ : 0 ≤ n ∧ n ≤ (S.sf d).length + (S.lo d).length := by simpa [trimOk] using ho
      obtain ⟨k, rfl⟩ : ∃ k : Nat, n = k := ⟨n.toNat, by omega⟩
      rw [hoo]
      by_cases ha : S.armed = 1
      · rw [doneE_cut hd hd3 ha]
        clear hoo ho
        go_enter Try.func10, Try.ntmps10
        go_wp2_with (first | (go_at_call 24; refine (asked_any (hal _) _).mono ?_; rintro e w1 ⟨rfl, rfl⟩) | (go_at_call 30; refine (all_any (hxb _) (hyb _) (by omega)).mono ?_; rintro e w1 ⟨v, rfl, hown, hbel⟩; obtain ⟨b3, k3, rfl⟩ := (Sl.of_own hown).shape; have kn : ∀ x, (w1.alloc x).cell? ⟨w.heap.size, 0, none⟩ = some (.int .i64 k) := fun x => Keeps.of_below (below_alloc w1 x) _ _ (Keeps.of_below hbel _ _ (cN _))) | (go_at_call 25; refine (change_cut ((h.below ((below_alloc _ _).trans (hbel.mono (by simp)))).below (below_alloc _ _)) ha _ _).mono ?_; rintro e w2 ⟨rfl, hr, hf⟩))
        go_ret
        exact ⟨rfl, hr, ((Fr.of_below ((below_alloc _ _).trans (hbel.mono (by simp)))).alloc _).trans hf⟩
      · rw [doneE_ok hd hd3 ha]
        clear hoo ho
        have hk : k ≤ (S.sf d).length + (S.lo d).length := by omega
        go_enter Try.func10, Try.ntmps10
        go_wp2_with (first | (go_at_call 24; refine (asked_any (hal _) _).mono ?_; rintro e w1 ⟨rfl, rfl⟩) | (go_at_call 30; refine (all_any (hxb _) (hyb _) (by omega)).mono ?_; rintro e w1 ⟨v, rfl, hown, hbel⟩; obtain ⟨b3, k3, rfl⟩ := (Sl.of_own hown).shape; have kn : ∀ x, (w1.alloc x).cell? ⟨w.heap.size, 0, none⟩ = some (.int .i64 k) := fun x => Keeps.of_below (below_alloc w1 x) _ _ (Keeps.of_below hbel _ _ (cN _))) | (go_at_call 25; refine (trim_call ((h.below ((below_alloc _ _).trans (hbel.mono (by simp)))).below (below_alloc _ _)) ha d k _ _ hd3 _ (newA _ _ _ _ _ _ rfl rfl) (kn _) ((Sb.of_own hown).byt (Byt.of_below (below_alloc _ _))) hk (by have := hbel.size; simp at this; omega) (by omega)).mono ?_; rintro e w2 ⟨rfl, hr, hf⟩))
        go_ret
        exact ⟨rfl, hr, ((Fr.of_below ((below_alloc _ _).trans (hbel.mono (by simp)))).alloc _).trans hf⟩
    · have hof : trimOk S (d : Int).toNat n = false := by simpa using ho
      rw [hof, doneE_arg hd]
      by_cases hneg : n < 0
      · go_enter Try.func10, Try.ntmps10
        go_wp2_with (first | (go_at_call 24; refine (asked_any (hal _) _).mono ?_; rintro e w1 ⟨rfl, rfl⟩) | (go_at_call 30; refine (all_any (hxb _) (hyb _) (by omega)).mono ?_; rintro e w1 ⟨v, rfl, hown, hbel⟩; obtain ⟨b3, k3, rfl⟩ := (Sl.of_own hown).shape; have kn : ∀ x, (w1.alloc x).cell? ⟨w.heap.size, 0, none⟩ = some (.int .i64 n) := fun x => Keeps.of_below (below_alloc w1 x) _ _ (Keeps.of_below hbel _ _ (cN _))))
        go_ret
        have hbb := (below_alloc _ _).trans (hbel.mono (by simp))
        exact ⟨rfl, (h.below hbb).below (below_alloc _ _), (Fr.of_below hbb).alloc _⟩
      · have hgt : ((S.sf d).length : Int) + ((S.lo d).length : Int) < n := by
          unfold trimOk at ho; simp at ho; omega
        go_enter Try.func10, Try.ntmps10
        go_wp2_with (first | (go_at_call 24; refine (asked_any (hal _) _).mono ?_; rintro e w1 ⟨rfl, rfl⟩) | (go_at_call 30; refine (all_any (hxb _) (hyb _) (by omega)).mono ?_; rintro e w1 ⟨v, rfl, hown, hbel⟩; obtain ⟨b3, k3, rfl⟩ := (Sl.of_own hown).shape; have kn : ∀ x, (w1.alloc x).cell? ⟨w.heap.size, 0, none⟩ = some (.int .i64 n) := fun x => Keeps.of_below (below_alloc w1 x) _ _ (Keeps.of_below hbel _ _ (cN _))))
        go_ret
        have hbb := (below_alloc _ _).trans (hbel.mono (by simp))
        exact ⟨rfl, (h.below hbb).below (below_alloc _ _), (Fr.of_below hbb).alloc _⟩
  · rw [doneE_ask hz]
    have hne : (askE S disk != 0) = true := by simpa using hz
    go_enter Try.func10, Try.ntmps10
    go_wp2_with (go_at_call 24; refine (asked_any (hal _) _).mono ?_; rintro e w1 ⟨rfl, rfl⟩)
    go_ret
    exact ⟨rfl, hal _, Fr.of_below (below_alloc _ _)⟩

end Go.Proofs.Ytlelbkljhbkjdaa
