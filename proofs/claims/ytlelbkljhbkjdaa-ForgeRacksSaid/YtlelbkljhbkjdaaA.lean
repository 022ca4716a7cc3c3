import Derived.Test.YtlelbkljhbkjdaaProg
import Derived.Test.YtlelbkljhbkjdaaK
namespace Go.Proofs.Ytlelbkljhbkjdaa
open Go.RowKit Go.Kk

theorem T27 : SlT Try.prog 27 5 1 1 (.int .u8 0) := ⟨by kernel_rfl, by
  obtain ⟨i, hi, h0, h1, h2⟩ := info_parts (show (Try.prog.info? 5).map (fun i => (i.zero, i.size, i.bytes)) = some (some (.int .u8 0), 1, 1) by kernel_rfl)
  exact ⟨i, hi, h0, h1, h2⟩, by decide, by decide⟩

set_option maxHeartbeats 400000 in
theorem grow0 (w : World) : Calls Try.prog 37 #[.slice none 0 0, .int .i64 0] w fun e w' => e = .returned (.slice none 0 0) ∧ w = w' := by
  go_enter Try.func37, Try.ntmps37
  go_wp2
  go_ret
  exact ⟨rfl, rfl⟩

theorem grow1 (n : Nat) (h0 : 0 < n) (hn : n ≤ 1000000) (w : World) : Calls Try.prog 37 #[.slice none 0 0, .int .i64 n] w fun e w' => ∃ v, e = .returned v ∧ w'.ownsRow w.heap.size 5 1 v 0 [] ∧ Below w.heap.size w w' := by
  obtain ⟨i, hi, hz, hs, hb⟩ := info_parts (show (Try.prog.info? 5).map (fun i => (i.zero, i.size, i.bytes)) = some (some (.int .u8 0), 1, 1) by kernel_rfl)
  have hr := fun ty => Lib.run_append_nil_zeros (P := Try.prog) w 27 3 ty 5 i (.int .u8 0) .i64 .i64 (by kernel_rfl) (by kernel_rfl) hi hz n h0 (by omega) (by omega) (by rw [hb]; omega)
  clear hi hz hs hb
  have H := Lib.hid hr
  clear hr
  have hge := grownCap_ge w n 0 5
  have hle := grownCap_le_maxLen w n 0 5 (by unfold maxLen; omega)
  go_enter Try.func37, Try.ntmps37
  go_wp2_with (at_builtin; refine Lib.wpList_append_run _ rfl _ _ _ _ rfl _ _ rfl rfl _ _ (H.out _) ?_)
  go_ret
  refine ⟨_, rfl, ?_, ((Below.refl _ _).alloc (Nat.le_refl _) _).drew⟩
  refine World.ownsRow_made w.drew _ _ (Nat.le_refl _) hle ?_
  simp [size_zeroCells]
  omega

theorem grow (n : Nat) (hn : n ≤ 1000000) (w : World) : Calls Try.prog 37 #[.slice none 0 0, .int .i64 n] w fun e w' => ∃ v, e = .returned v ∧ w'.ownsRow w.heap.size 5 1 v 0 [] ∧ Below w.heap.size w w' := by
  by_cases h : n = 0
  · subst h
    exact (grow0 w).mono fun e w' ⟨he, hw⟩ => ⟨_, he, World.ownsRow_nil _ _ _ _, hw ▸ Below.refl _ _⟩
  · exact grow1 n (by omega) hn w

theorem flatten_take_succ {α : Type} (rows : List (List α)) (k : Nat) (h : k < rows.length) : (rows.take (k + 1)).flatten = (rows.take k).flatten ++ rows[k] := by
  rw [List.take_succ_eq_append_getElem h, List.flatten_append]; simp

theorem flatten_take_le {α : Type} (rows : List (List α)) (k : Nat) : (rows.take k).flatten.length ≤ rows.flatten.length := by
  have := congrArg (fun l => l.flatten.length) (List.take_append_drop k rows)
  simp only [List.flatten_append, List.length_append] at this
  omega

/-- how long the first k rows are together -/
def flen (rows : List (List Value)) (k : Nat) : Nat := (rows.take k).flatten.length
theorem flen_le (rows : List (List Value)) (k : Nat) : flen rows k ≤ rows.flatten.length := flatten_take_le rows k
theorem flen_succ (rows : List (List Value)) (k : Nat) (h : k < rows.length) : flen rows (k + 1) = flen rows k + rows[k].length := by
  unfold flen; rw [flatten_take_succ rows k h, List.length_append]
theorem flen_all (rows : List (List Value)) (n : Nat) (h : rows.length = n) : flen rows n = rows.flatten.length := by unfold flen; rw [List.take_of_length_le (by omega)]
def fcat (rows : List (List Value)) (k : Nat) : List Value := (rows.take k).flatten
theorem fcat_succ (rows : List (List Value)) (k : Nat) (h : k < rows.length) : fcat rows (k + 1) = fcat rows k ++ rows[k] := flatten_take_succ rows k h
theorem fcat_all (rows : List (List Value)) (n : Nat) (h : rows.length = n) : fcat rows n = rows.flatten := by unfold fcat; rw [List.take_of_length_le (by omega)]

set_option maxHeartbeats 1000000 in
theorem concat (b off cap n : Nat) (vs : List Value) (rows : List (List Value)) (w : World) (hn : vs.length = n) (hr : rows.length = n) (hn64 : n ≤ 1000000)
    (hv : Cells w b off vs) (hs : ∀ i (h1 : i < vs.length) (h2 : i < rows.length), Sl w 1 vs[i] rows[i].length rows[i]) (hone : ∀ r ∈ rows, ∀ u ∈ r, u.oneCell' = true) (ht : flen rows n ≤ 1000000) :
    Calls Try.prog 27 #[.slice (some ⟨b, off, none⟩) n cap] w fun e w' => ∃ v, e = .returned v ∧ w'.ownsRow w.heap.size 5 1 v (flen rows n) (fcat rows n) ∧ Below w.heap.size w w' := by
  have hfl := flen_all rows n hr
  have hle : ∀ k, flen rows k ≤ 1000000 := fun k => by have := flen_le rows k; omega
  have HF := Lib.hid hfl
  have HLE := Lib.hid hle
  clear hfl hle
  go_enter Try.func27, Try.ntmps27
  go_wp2
  go_loop [3, 11] (fun s i => ∃ k : Nat, k ≤ n ∧ i = .int .i64 k ∧ s = .int .i64 (flen rows k)) (fun _ i => n - (intOf i).toNat)
  case atStart => exact ⟨0, by omega, rfl, rfl⟩
  case round =>
    obtain ⟨k, hk, rfl, rfl⟩ := hrel
    by_cases hlt : k < n
    · have hc := hv k vs[k] (List.getElem?_eq_getElem (by omega))
      obtain ⟨base, cp, hval⟩ := (hs k (by omega) (by omega)).shape
      rw [hval] at hc
      have hl := flen_succ rows k (by omega)
      have hb : flen rows k + rows[k].length ≤ 1000000 := by have := HLE.out (k + 1); omega
      have HL := Lib.hid hl
      clear hval hl
      go_wp2
      go_round
      case rel => exact ⟨k + 1, by omega, by go_num, by rw [HL.out]; go_num⟩
      case measure => simp [intOf]; omega
    · obtain rfl : k = n := by omega
      have h0 : 0 ≤ (flen rows k : Int) := by omega
      have hb := HLE.out k
      go_wp2_with (go_at_call 37; refine (grow _ hb _).mono ?_; rintro e w1 ⟨v1, rfl, hown1, hbel1⟩)
      go_loopw [6, 27] (fun v i wr => ∃ j : Nat, j ≤ k ∧ i = .int .i64 j ∧ wr.ownsRow w.heap.size 5 1 v (flen rows j) (fcat rows j) ∧ Below w.heap.size w wr) (fun _ i _ => k - (intOf i).toNat)
      case atStart => exact ⟨0, by omega, rfl, hown1, hbel1⟩
      case round =>
        obtain ⟨j, hj, rfl, hown, hbel⟩ := hrel
        by_cases hlt : j < k
        · have hc0 := hv j vs[j] (List.getElem?_eq_getElem (by omega))
          have hc := Keeps.of_below hbel _ _ hc0
          have hsl := (hs j (by omega) (by omega)).keeps (Keeps.of_below hbel)
          obtain ⟨base, cp, hval⟩ := hsl.shape
          rw [hval] at hc hsl
          have hl := flen_succ rows j (by omega)
          have hb : flen rows j + rows[j].length ≤ 1000000 := by have := HLE.out (j + 1); omega
          have hone1 := hone rows[j] (List.getElem_mem _)
          have HL := Lib.hid hl
          have hcat := fcat_succ rows j (by omega)
          have HC := Lib.hid hcat
          clear hval hl hcat hc0
          go_wp2_with (at_builtin; refine wpList_append rfl _ _ _ rfl T27 rfl hown rfl hsl hone1 (by unfold maxLen; omega) (by omega) hbel.size ?_; intro v' w' hown' hg)
          rw [← HL.out, ← HC.out] at hown'
          have hbel' := hbel.grown hg hbel.size (fun k hk => (hown.lt k hk).1)
          clear hown hbel hsl
          go_wp2
          go_roundw
          case rel => exact ⟨j + 1, by omega, by go_num, hown', hbel'⟩
          case measure => simp [intOf]; omega
        · obtain rfl : j = k := by omega
          go_wp2
          go_ret
          exact ⟨_, rfl, hown, hbel⟩
/-- Concat of two slices -/
theorem concat2 (b off cap n m : Nat) (v1 v2 : Value) (xs ys : List Value) (w : World) (h1 : w.cell? ⟨b, off, none⟩ = some v1) (h2 : w.cell? ⟨b, off + 1, none⟩ = some v2)
    (hx : Sl w 1 v1 n xs) (hy : Sl w 1 v2 m ys) (ox : ∀ u ∈ xs, u.oneCell' = true) (oy : ∀ u ∈ ys, u.oneCell' = true) (ht : n + m ≤ 1000000) :
    Calls Try.prog 27 #[.slice (some ⟨b, off, none⟩) 2 cap] w fun e w' => ∃ v, e = .returned v ∧ w'.ownsRow w.heap.size 5 1 v (n + m) (xs ++ ys) ∧ Below w.heap.size w w' := by
  have lx : xs.length = n := by simpa using hx.1
  have ly : ys.length = m := by simpa using hy.1
  have e1 : flen [xs, ys] 2 = n + m := by simp [flen, lx, ly]
  have e2 : fcat [xs, ys] 2 = xs ++ ys := by simp [fcat]
  refine (concat b off cap 2 [v1, v2] [xs, ys] w rfl rfl (by omega) ?_ ?_ ?_ (by omega)).mono ?_
  · intro j u hu
    rcases j with _ | _ | j
    · simp at hu; subst hu; simpa using h1
    · simp at hu; subst hu; simpa using h2
    · simp at hu
  · intro i h1 h2
    rcases i with _ | _ | i
    · simpa [lx] using hx
    · simpa [ly] using hy
    · simp at h1; omega
  · intro r hr
    simp at hr
    rcases hr with rfl | rfl
    · exact ox
    · exact oy
  · rw [e1, e2]
    exact fun e w' h => h
end Go.Proofs.Ytlelbkljhbkjdaa
