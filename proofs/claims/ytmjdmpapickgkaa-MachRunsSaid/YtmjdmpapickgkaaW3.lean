import Derived.Test.YtmjdmpapickgkaaW2
namespace Go.Proofs.Ytmjdmpapickgkaa
open Go.RowKit Go.Kk

/-- a list of ints and an error -/
def ListPost (l : List Int) (er : Int) (w : World) (e : Ending) (w' : World) : Prop := ∃ v', e = .returned (.tuple #[v', .int .i64 er]) ∧ IsInts w' v' l ∧ Below w.heap.size w w'

theorem isInts_nil (w : World) : IsInts w (.slice none 0 0) [] := Sl.nil w 1

set_option maxHeartbeats 1000000 in
theorem Waits_bad (p : List Opn) (v : Value) (w : World) (hl : IsProg w v p) (hlen : Narrow p) (hok : okProg p = false) : Calls Try.prog 20 #[v] w (ListPost [] 80 w) := by
  have HV := Lib.hid (valid_any p v w hl hlen)
  rw [hok] at HV
  clear hl hok
  go_enter Try.func20, Try.ntmps20
  go_wp2_with (first | (go_at_call 22; refine HV.out.mono ?_; rintro e w1 ⟨rfl, h1⟩))
  go_ret2
  exact ⟨_, rfl, isInts_nil _, h1⟩

theorem ints_filter_succ (f : Nat → Bool) (k : Nat) : I64 (ints ((List.range (k + 1)).filter f)) = I64 (ints ((List.range k).filter f)) ++ (if f k then [.int .i64 k] else []) := by
  rw [filter_range_succ]
  by_cases h : f k = true <;> simp [I64, ints, h]
theorem ints_filter_yes {f : Nat → Bool} {k : Nat} (h : f k = true) : I64 (ints ((List.range (k + 1)).filter f)) = I64 (ints ((List.range k).filter f)) ++ [.int .i64 k] ∧ ((List.range (k + 1)).filter f).length = ((List.range k).filter f).length + 1 := by
  rw [filter_range_succ, h]; simp [I64, ints]
theorem ints_filter_no {f : Nat → Bool} {k : Nat} (h : f k = false) : (List.range (k + 1)).filter f = (List.range k).filter f := by
  rw [filter_range_succ, h]; simp
theorem filter_len (f : Nat → Bool) (k : Nat) : ((List.range k).filter f).length ≤ k := Nat.le_trans (List.length_filter_le _ _) (by simp)

set_option maxHeartbeats 1000000 in
theorem Waits_ok (p : List Opn) (v : Value) (w : World) (hl : IsProg w v p) (hok : okProg p = true) : Calls Try.prog 20 #[v] w (ListPost (ints (waitL p)) 0 w) := by
  have hlp := okProg_len hok
  have HV := Lib.hid (valid_any p v w hl (okProg_narrow hok))
  rw [hok] at HV
  have HS := Lib.hid (fun w1 hl => slacks_any p v w1 hl hok)
  have HL := Lib.hid hl
  have HO := Lib.hid hok
  clear hl hok
  go_enter Try.func20, Try.ntmps20
  go_wp2_with (first
    | (go_at_call 22; refine HV.out.mono ?_; rintro e w1 ⟨rfl, h1⟩)
    | (go_at_call 42; refine (HS.out _ (HL.out.keeps (Keeps.of_below h1))).mono ?_; rintro e w2 ⟨vs, rfl, hsl, h2⟩; obtain ⟨bv, cv, rfl⟩ := hsl.shape; have hll : (slackL p).length = p.length := by simp [slackL]))
  have hb2 : Below w.heap.size w w2 := h1.trans (h2.mono h1.size)
  have HSL := Lib.hid hsl
  have HLL := Lib.hid hll
  clear h1 h2 hsl hll
  go_loopw [4, 13] (fun vo i wr => ∃ k : Nat, k ≤ p.length ∧ i = .int .i64 k ∧ Below w2.heap.size w2 wr ∧ wr.ownsRow w2.heap.size 3 1 vo ((List.range k).filter (fun i => decide (slackI (timeOf p) (opn p i) < -1))).length (I64 (ints ((List.range k).filter (fun i => decide (slackI (timeOf p) (opn p i) < -1)))))) (fun _ i _ => p.length - (intOf i).toNat)
  case atStart => exact ⟨0, by omega, rfl, Below.refl _ _, World.ownsRow_nil _ _ _ _⟩
  case round =>
    obtain ⟨k, hk, rfl, hbel, hown⟩ := hrel
    have hb0 : Below w.heap.size w wr := hb2.trans (hbel.mono hb2.size)
    by_cases hlt : k < p.length
    · obtain ⟨b1, off, cp1, hv, hc, hcl⟩ := Sl.at HSL.out (by have := HLL.out; omega)
      have e1 := HLL.out
      injection hv with hv1 hv2 hv3
      subst hv1 hv3
      have c0 := (hcl.keeps (Keeps.of_below hbel)) k (.int .i64 (slackI (timeOf p) (opn p k))) (by have := slackL_get p k hlt; simp [I64, this])
      have hfl := filter_len (fun i => decide (slackI (timeOf p) (opn p i) < -1)) k
      clear hcl e1 hv2
      by_cases hw : slackI (timeOf p) (opn p k) < -1
      · have HN := Lib.hid (ints_filter_yes (f := fun i => decide (slackI (timeOf p) (opn p i) < -1)) (k := k) (by simpa using hw))
        generalize slackI (timeOf p) (opn p k) = x at *
        have hown1 := Lib.hid hown
        clear hown
        go_wp2_with (first
          | (at_builtin; go_must (refine wpList_push rfl _ _ _ rfl slT25 _ rfl hown1.out rfl rfl rfl (by omega) (by omega) hbel (Nat.le_refl _) hbel.size _ HN.out.1.symm ?_); intro v' w3 hown2 hb3))
        go_roundw
        case rel => exact ⟨k + 1, by omega, by go_num, hb3, by rw [HN.out.2]; exact hown2⟩
        case measure => simp [intOf]; omega
      · have HN := Lib.hid (ints_filter_no (f := fun i => decide (slackI (timeOf p) (opn p i) < -1)) (k := k) (by simpa using hw))
        generalize slackI (timeOf p) (opn p k) = x at *
        have hown1 := Lib.hid hown
        clear hown
        go_wp2
        go_roundw
        case rel => exact ⟨k + 1, by omega, by go_num, hbel, by rw [HN.out]; exact hown1.out⟩
        case measure => simp [intOf]; omega
    · obtain rfl : k = p.length := by omega
      go_wp2
      go_ret2
      rw [← waitL_eq] at hown
      refine ⟨_, rfl, ?_, hb0⟩
      unfold IsInts
      rw [show (ints (waitL p)).length = (waitL p).length by simp [ints]]
      exact Sl.of_own hown
end Go.Proofs.Ytmjdmpapickgkaa
