import Derived.Test.YtmjdmpapickgkaaD
import Derived.Deep.QuietTactic
import Derived.BigQuiet
namespace Go.Proofs.Ytmjdmpapickgkaa
open Go.RowKit Go.Kk

theorem below_newN (w : World) (o : Obj) (n : Nat) : Below w.heap.size w ((w.alloc o).drewN n) := by
  have h := below_alloc w o
  exact ⟨h.os, h.tape, h.output, h.size, h.block⟩
theorem okSrc_const {n : Int} {s : Src} (h : s.op = -1) : okSrc n s = (bt 0 s.val 10006 && decide (s.hops = 0)) := if_pos h
theorem okSrc_op {n : Int} {s : Src} (h : ¬ s.op = -1) : okSrc n s = (bt 0 s.op (n - 1) && decide (s.val = 0) && bt 0 s.hops 12) := if_neg h

set_option maxRecDepth 100000 in
set_option maxHeartbeats 4000000 in
theorem refValid_any (p : List Opn) (v : Value) (w : World) (hl : IsProg w v p) (hlen : Narrow p) :
    Calls Try.prog 17 #[v] w fun e w' => e = .returned (.bool (okProg p)) ∧ Below w.heap.size w w' := by
  obtain ⟨bs, cq, hval⟩ := hl.1.shape
  subst hval
  have hlp := hlen.1
  by_cases h : p.length ≤ 4000
  rotate_left
  · go_enter Try.func17, Try.ntmps17
    go_wp2
    go_ret
    exact ⟨by simp [okProg, h], Below.refl _ _⟩
  go_enter Try.func17, Try.ntmps17
  go_wp2
  go_loopw [3] (fun i wr => ∃ k : Nat, k ≤ p.length ∧ i = .int .i64 k ∧ (p.take k).any (fun o => ! okOp p.length o) = false ∧ Below w.heap.size w wr) (fun i _ => p.length - (intOf i).toNat)
  case atStart => exact ⟨0, by omega, rfl, by simp, Below.refl _ _⟩
  case round =>
    obtain ⟨k, hk, rfl, hany, hbel⟩ := hrel
    by_cases hlt : k < p.length
    · obtain ⟨b1, off, cp1, hv, hc, hcl⟩ := Sl.at hl.1 (by omega)
      injection hv with hv1 _ hv3
      subst hv1 hv3
      have hcl' := hcl.keeps (Keeps.of_below hbel)
      obtain ⟨c0, c1, c2, c3, c4, c5⟩ := op_cells hcl' k hlt
      have hsr := (hl.2 p[k] (List.getElem_mem _)).keeps (Keeps.of_below hbel)
      have hsl := hlen.2 p[k] (List.getElem_mem _)
      clear hl hcl hcl' hlen
      have hat := any_of_at (fun o => ! okOp p.length o) p k hlt
      have hnx := any_take_succ (fun o => ! okOp p.length o) p k hlt hany
      generalize p[k] = o at *
      obtain ⟨t, a0, a1, u, kd, oh, src⟩ := o
      simp only at *
      obtain ⟨bh, ch, hoh⟩ := hsr.shape
      subst hoh
      have hN := fun w => Needs_any kd w
      have hok : okOp p.length ⟨t, a0, a1, u, kd, .slice bh src.length ch, src⟩ = (((! decide (need kd = 0)) && decide ((src.length : Int) = need kd)) && (bt (-100000) t 100000 && bt 0 u 3) && (bt (-1000) a0 1000 && bt (-1000) a1 1000) && ! src.any (fun s => ! okSrc p.length s)) := rfl
      rw [hok] at hat hnx
      clear hok
      generalize need kd = nd at *
      by_cases h1 : bt (-100000) t 100000 = true
      rotate_left
      · replace h1 : bt (-100000) t 100000 = false := by simpa using h1
        go_wp2
        go_quiet (first | (go_at_call 39; refine Calls.quiet_of_same (within_any _ _ _ _)) | (go_at_call 40; refine Calls.quiet_of_same (hN _)))
        go_wp2
        go_ret
        exact ⟨by simp [okProg, h, hat (by simp [h1])], hbel.trans ((below_newN wr _ _).mono hbel.size)⟩
      by_cases h2 : bt (-1000) a0 1000 = true
      rotate_left
      · replace h2 : bt (-1000) a0 1000 = false := by simpa using h2
        go_wp2
        go_quiet (first | (go_at_call 39; refine Calls.quiet_of_same (within_any _ _ _ _)) | (go_at_call 40; refine Calls.quiet_of_same (hN _)))
        go_wp2
        go_ret
        exact ⟨by simp [okProg, h, hat (by simp [h2])], hbel.trans ((below_newN wr _ _).mono hbel.size)⟩
      by_cases h3 : bt (-1000) a1 1000 = true
      rotate_left
      · replace h3 : bt (-1000) a1 1000 = false := by simpa using h3
        go_wp2
        go_quiet (first | (go_at_call 39; refine Calls.quiet_of_same (within_any _ _ _ _)) | (go_at_call 40; refine Calls.quiet_of_same (hN _)))
        go_wp2
        go_ret
        exact ⟨by simp [okProg, h, hat (by simp [h3])], hbel.trans ((below_newN wr _ _).mono hbel.size)⟩
      by_cases h4 : bt 0 u 3 = true
      rotate_left
      · replace h4 : bt 0 u 3 = false := by simpa using h4
        go_wp2
        go_quiet (first | (go_at_call 39; refine Calls.quiet_of_same (within_any _ _ _ _)) | (go_at_call 40; refine Calls.quiet_of_same (hN _)))
        go_wp2
        go_ret
        exact ⟨by simp [okProg, h, hat (by simp [h4])], hbel.trans ((below_newN wr _ _).mono hbel.size)⟩
      by_cases h5 : nd = 0
      · have b5 : (nd == 0) = true := by simp [h5]
        go_wp2
        go_quiet (first | (go_at_call 39; refine Calls.quiet_of_same (within_any _ _ _ _)) | (go_at_call 40; refine Calls.quiet_of_same (hN _)))
        go_wp2
        go_ret
        exact ⟨by simp [okProg, h, hat (by simp [h5])], hbel.trans ((below_newN wr _ _).mono hbel.size)⟩
      have b5 : (nd == 0) = false := by simp [h5]
      by_cases h6 : (src.length : Int) = nd
      rotate_left
      · have b6 : ((src.length : Int) != nd) = true := by simp [h6]
        go_wp2
        go_quiet (first | (go_at_call 39; refine Calls.quiet_of_same (within_any _ _ _ _)) | (go_at_call 40; refine Calls.quiet_of_same (hN _)))
        go_wp2
        go_ret
        exact ⟨by simp [okProg, h, hat (by simp [h6])], hbel.trans ((below_newN wr _ _).mono hbel.size)⟩
      have b6 : ((src.length : Int) != nd) = false := by simp [h6]
      go_wp2
      go_quiet (first | (go_at_call 39; refine Calls.quiet_of_same (within_any _ _ _ _)) | (go_at_call 40; refine Calls.quiet_of_same (hN _)))
      go_wp2
      have HH := Lib.hid (And.intro h1 (And.intro h2 (And.intro h3 (And.intro h4 (And.intro h5 h6)))))
      clear h1 h2 h3 h4 h5 h6 b5 b6
      obtain ⟨w0, hw0⟩ : ∃ x, x = wr := ⟨wr, rfl⟩
      subst hw0
      have hb0 := below_newN w0 (.cells #[.int .i64 t, .int .i64 a0, .int .i64 a1, .int .i64 u, .int .i64 kd, .slice bh src.length ch] 37) nq
      go_loopw [5] (fun i wr => ∃ j : Nat, j ≤ src.length ∧ i = .int .i64 j ∧ (src.take j).any (fun s => ! okSrc p.length s) = false ∧ Below (w0.heap.size + 1) ((w0.alloc (.cells #[.int .i64 t, .int .i64 a0, .int .i64 a1, .int .i64 u, .int .i64 kd, .slice bh src.length ch] 37)).drewN nq) wr) (fun i _ => src.length - (intOf i).toNat)
      case atStart => exact ⟨0, by omega, rfl, by simp, Below.refl _ _⟩
      case round =>
        obtain ⟨j, hj, rfl, hjany, hbq⟩ := hrel
        have g5 : wr.cell? ⟨w0.heap.size, 5, none⟩ = some (.slice bh src.length ch) := (hbq.cell (p := ⟨w0.heap.size, 5, none⟩) (by simp)).trans (newA w0 w0.heap.size _ 37 5 _ rfl rfl)
        have hsz : w0.heap.size + 1 ≤ wr.heap.size := by have := hbq.size; simpa using this
        have hb1 : Below w0.heap.size w0 wr := hb0.trans (hbq.mono (by omega))
        by_cases hjl : j < src.length
        · obtain ⟨b2, of2, cp2, hv, hc2, hcl2⟩ := Sl.at hsr (by omega)
          injection hv with hv1 _ hv3
          subst hv1 hv3
          have hcl3 := hcl2.keeps (Keeps.of_below hb1)
          obtain ⟨d0, d1, d2⟩ := src_cells hcl3 j hjl
          have hsat := any_of_at (fun s => ! okSrc p.length s) src j hjl
          have hsnx := any_take_succ (fun s => ! okSrc p.length s) src j hjl hjany
          have g5x := fun o => Keeps.of_below (below_alloc wr o) _ _ g5
          clear hsr hcl2 hcl3
          generalize src[j] = s at *
          obtain ⟨so, sv, sh⟩ := s
          simp only at *
          by_cases o1 : so = -1
          · have hk0 := okSrc_const (n := p.length) (s := ⟨so, sv, sh⟩) o1
            simp only at hk0
            have o1b : bt 0 so ((p.length : Int) - 1) = false := by subst o1; simp [bt]
            by_cases o2 : bt 0 sv 10006 = true
            · by_cases o3 : sh = 0
              · have o3b : (sh == 0) = true := by simp [o3]
                go_wp2_with (first | (go_at_call 39; refine (within_any _ _ _ _).mono ?_; rintro e w1 ⟨rfl, rfl⟩))
                go_roundw
                case rel => exact ⟨j + 1, by omega, by go_num, hsnx (by rw [hk0]; simp [o2, o3]), hbq.trans ((below_alloc wr _).mono hsz)⟩
                case measure => simp [intOf]; omega
              · have o3b : (sh == 0) = false := by simp [o3]
                go_wp2_with (first | (go_at_call 39; refine (within_any _ _ _ _).mono ?_; rintro e w1 ⟨rfl, rfl⟩))
                go_ret
                exact ⟨by simp [okProg, h, hat (by obtain ⟨h1, h2, h3, h4, h5, h6⟩ := HH.out; simp [hsat (by rw [hk0]; simp [o2, o3])])], hbel.trans ((hb1.trans ((below_alloc wr _).mono hb1.size)).mono hbel.size)⟩
            · replace o2 : bt 0 sv 10006 = false := by simpa using o2
              go_wp2_with (first | (go_at_call 39; refine (within_any _ _ _ _).mono ?_; rintro e w1 ⟨rfl, rfl⟩))
              go_ret
              exact ⟨by simp [okProg, h, hat (by obtain ⟨h1, h2, h3, h4, h5, h6⟩ := HH.out; simp [hsat (by rw [hk0]; simp [o2])])], hbel.trans ((hb1.trans ((below_alloc wr _).mono hb1.size)).mono hbel.size)⟩
          · have hk0 := okSrc_op (n := p.length) (s := ⟨so, sv, sh⟩) o1
            simp only at hk0
            have o1b : (so == -1) = false := by simp [o1]
            by_cases o2 : bt 0 so ((p.length : Int) - 1) = true
            rotate_left
            · replace o2 : bt 0 so ((p.length : Int) - 1) = false := by simpa using o2
              go_wp2_with (first | (go_at_call 39; refine (within_any _ _ _ _).mono ?_; rintro e w1 ⟨rfl, rfl⟩))
              go_ret
              exact ⟨by simp [okProg, h, hat (by obtain ⟨h1, h2, h3, h4, h5, h6⟩ := HH.out; simp [hsat (by rw [hk0]; simp [o2])])], hbel.trans ((hb1.trans ((below_alloc wr _).mono hb1.size)).mono hbel.size)⟩
            by_cases o3 : sv = 0
            rotate_left
            · have o3b : (sv == 0) = false := by simp [o3]
              go_wp2_with (first | (go_at_call 39; refine (within_any _ _ _ _).mono ?_; rintro e w1 ⟨rfl, rfl⟩))
              go_ret
              exact ⟨by simp [okProg, h, hat (by obtain ⟨h1, h2, h3, h4, h5, h6⟩ := HH.out; simp [hsat (by rw [hk0]; simp [o2, o3])])], hbel.trans ((hb1.trans ((below_alloc wr _).mono hb1.size)).mono hbel.size)⟩
            by_cases o4 : bt 0 sh 12 = true
            · have o3b : (sv == 0) = true := by simp [o3]
              go_wp2_with (first | (go_at_call 39; refine (within_any _ _ _ _).mono ?_; rintro e w1 ⟨rfl, rfl⟩))
              go_roundw
              case rel => exact ⟨j + 1, by omega, by go_num, hsnx (by rw [hk0]; simp [o2, o3, o4]), hbq.trans ((below_alloc wr _).mono hsz)⟩
              case measure => simp [intOf]; omega
            · replace o4 : bt 0 sh 12 = false := by simpa using o4
              have o3b : (sv == 0) = true := by simp [o3]
              go_wp2_with (first | (go_at_call 39; refine (within_any _ _ _ _).mono ?_; rintro e w1 ⟨rfl, rfl⟩))
              go_ret
              exact ⟨by simp [okProg, h, hat (by obtain ⟨h1, h2, h3, h4, h5, h6⟩ := HH.out; simp [hsat (by rw [hk0]; simp [o2, o3, o4])])], hbel.trans ((hb1.trans ((below_alloc wr _).mono hb1.size)).mono hbel.size)⟩
        · obtain rfl : j = src.length := by omega
          rw [List.take_length] at hjany
          go_wp2
          go_roundw
          obtain ⟨h1, h2, h3, h4, h5, h6⟩ := HH.out
          case rel => exact ⟨k + 1, by omega, by go_num, hnx (by simp [h1, h2, h3, h4, h5, h6, hjany]), hbel.trans (hb1.mono hbel.size)⟩
          case measure => simp [intOf]; omega
    · obtain rfl : k = p.length := by omega
      go_wp2
      go_ret
      rw [List.take_length] at hany
      exact ⟨by simp [okProg, h, hany], hbel⟩
end Go.Proofs.Ytmjdmpapickgkaa
