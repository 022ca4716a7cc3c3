import Derived.Test.YtmjdmpapickgkaaZ1
import Derived.Deep.QuietTactic
import Derived.BigQuiet
import Derived.ChangeKeysEq
namespace Go.Proofs.Ytmjdmpapickgkaa
open Go.RowKit Go.Kk

theorem below_newN (w : World) (o : Obj) (n : Nat) : Below w.heap.size w ((w.alloc o).drewN n) := by
  have h := below_alloc w o
  exact ⟨h.os, h.tape, h.output, h.size, h.block⟩
theorem okSrc_const {n : Int} {s : Src} (h : s.op = -1) : okSrc n s = (bt 0 s.val 10006 && decide (s.hops = 0)) := if_pos h
theorem okSrc_op {n : Int} {s : Src} (h : ¬ s.op = -1) : okSrc n s = (bt 0 s.op (n - 1) && decide (s.val = 0) && bt 0 s.hops 12) := if_neg h

set_option maxRecDepth 100000 in
set_option maxHeartbeats 4000000 in
theorem refValid_any (p : List Opn) (v : Value) (w : World) (hl : IsProg w v p) (hlen : Narrow p) :
    Calls Try.prog 17 #[v] w fun e w' => e = .returned (.bool (okProg p)) ∧ Below w.heap.size w w' := by
  obtain ⟨bs, cq, hval⟩ := hl.1.shape
  subst hval
  have hlp := hlen.1
  by_cases h : p.length ≤ 4000
  rotate_left
  · go_enter Try.func17, Try.ntmps17
    go_wp2
    go_ret
    exact ⟨by simp [okProg, h], Below.refl _ _⟩
  go_enter Try.func17, Try.ntmps17
  go_wp2
  go_loopw [3] (fun i wr => ∃ k : Nat, k ≤ p.length ∧ i = .int .i64 k ∧ (p.take k).any (fun o => ! okOp p.length o) = false ∧ Below w.heap.size w wr) (fun i _ => p.length - (intOf i).toNat)
  case atStart => exact ⟨0, by omega, rfl, by simp, Below.refl _ _⟩
  case round =>
    obtain ⟨k, hk, rfl, hany, hbel⟩ := hrel
    by_cases hlt : k < p.length
    · obtain ⟨b1, off, cp1, hv, hc, hcl⟩ := Sl.at hl.1 (by omega)
      injection hv with hv1 _ hv3
      subst hv1 hv3
      have hcl' := hcl.keeps (Keeps.of_below hbel)
      obtain ⟨c0, c1, c2, c3, c4, c5⟩ := op_cells hcl' k hlt
      have hsr := (hl.2 p[k] (List.getElem_mem _)).keeps (Keeps.of_below hbel)
      have hsl := hlen.2 p[k] (List.getElem_mem _)
      clear hl hcl hcl' hlen
      have hat := any_of_at (fun o => ! okOp p.length o) p k hlt
      have hnx := any_take_succ (fun o => ! okOp p.length o) p k hlt hany
      generalize p[k] = o at *
      obtain ⟨t, a0, a1, u, kd, oh, src⟩ := o
      simp only at *
      obtain ⟨bh, ch, hoh⟩ := hsr.shape
      subst hoh
      have hN := fun w => Needs_any kd w
      have hok : okOp p.length ⟨t, a0, a1, u, kd, .slice bh src.length ch, src⟩ = (((! decide (need kd = 0)) && decide ((src.length : Int) = need kd)) && (bt (-100000) t 100000 && bt 0 u 3) && (bt (-1000) a0 1000 && bt (-1000) a1 1000) && ! src.any (fun s => ! okSrc p.length s)) := rfl
      rw [hok] at hat hnx
      clear hok
      generalize need kd = nd at *
      by_cases h1 : bt (-100000) t 100000 = true
      rotate_left
      · replace h1 : bt (-100000) t 100000 = false := by simpa using h1
        go_wp2
        go_quiet (first | (go_at_call 39; refine Calls.quiet_of_same (within_any _ _ _ _)) | (go_at_call 40; refine Calls.quiet_of_same (hN _)))
        go_wp2
        go_ret
        exact ⟨by simp [okProg, h, hat (by simp [h1])], hbel.trans ((below_newN wr _ _).mono hbel.size)⟩
      by_cases h2 : bt (-1000) a0 1000 = true
      rotate_left
      · replace h2 : bt (-1000) a0 1000 = false := by simpa using h2
        go_wp2
        go_quiet (first | (go_at_call 39; refine Calls.quiet_of_same (within_any _ _ _ _)) | (go_at_call 40; refine Calls.quiet_of_same (hN _)))
        go_wp2
        go_ret
        exact ⟨by simp [okProg, h, hat (by simp [h2])], hbel.trans ((below_newN wr _ _).mono hbel.size)⟩
      by_cases h3 : bt (-1000) a1 1000 = true
      rotate_left
      · replace h3 : bt (-1000) a1 1000 = false := by simpa using h3
        go_wp2
        go_quiet (first | (go_at_call 39; refine Calls.quiet_of_same (within_any _ _ _ _)) | (go_at_call 40; refine Calls.quiet_of_same (hN _)))
        go_wp2
        go_ret
        exact ⟨by simp [okProg, h, hat (by simp [h3])], hbel.trans ((below_newN wr _ _).mono hbel.size)⟩
      by_cases h4 : bt 0 u 3 = true
      rotate_left
      · replace h4 : bt 0 u 3 = false := by simpa using h4
        go_wp2
        go_quiet (first | (go_at_call 39; refine Calls.quiet_of_same (within_any _ _ _ _)) | (go_at_call 40; refine Calls.quiet_of_same (hN _)))
        go_wp2
        go_ret
        exact ⟨by simp [okProg, h, hat (by simp [h4])], hbel.trans ((below_newN wr _ _).mono hbel.size)⟩
      by_cases h5 : nd = 0
      · have b5 : (nd == 0) = true := by simp [h5]
        go_wp2
        go_quiet (first | (go_at_call 39; refine Calls.quiet_of_same (within_any _ _ _ _)) | (go_at_call 40; refine Calls.quiet_of_same (hN _)))
        go_wp2
        go_ret
        exact ⟨by simp [okProg, h, hat (by simp [h5])], hbel.trans ((below_newN wr _ _).mono hbel.size)⟩
      have b5 : (nd == 0) = false := by simp [h5]
      by_cases h6 : (src.length : Int) = nd
      rotate_left
      · have b6 : ((src.length : Int) != nd) = true := by simp [h6]
        go_wp2
        go_quiet (first | (go_at_call 39; refine Calls.quiet_of_same (within_any _ _ _ _)) | (go_at_call 40; refine Calls.quiet_of_same (hN _)))
        go_wp2
        go_ret
        exact ⟨by simp [okProg, h, hat (by simp [h6])], hbel.trans ((below_newN wr _ _).mono hbel.size)⟩
      have b6 : ((src.length : Int) != nd) = false := by simp [h6]
      go_wp2
      go_quiet (first | (go_at_call 39; refine Calls.quiet_of_same (within_any _ _ _ _)) | (go_at_call 40; refine Calls.quiet_of_same (hN _)))
      go_wp2
      have HH := Lib.hid (And.intro h1 (And.intro h2 (And.intro h3 (And.intro h4 (And.intro h5 h6)))))
      clear h1 h2 h3 h4 h5 h6 b5 b6
      obtain ⟨w0, hw0⟩ : ∃ x, x = wr := ⟨wr, rfl⟩
      subst hw0
      have hb0 := below_newN w0 (.cells #[.int .i64 t, .int .i64 a0, .int .i64 a1, .int .i64 u, .int .i64 kd, .slice bh src.length ch] 37) nq
      go_loopw [5] (fun i wr => ∃ j : Nat, j ≤ src.length ∧ i = .int .i64 j ∧ (src.take j).any (fun s => ! okSrc p.length s) = false ∧ Below (w0.heap.size + 1) ((w0.alloc (.cells #[.int .i64 t, .int .i64 a0, .int .i64 a1, .int .i64 u, .int .i64 kd, .slice bh src.length ch] 37)).drewN nq) wr) (fun i _ => src.length - (intOf i).toNat)
      case atStart => exact ⟨0, by omega, rfl, by simp, Below.refl _ _⟩
      case round =>
        obtain ⟨j, hj, rfl, hjany, hbq⟩ := hrel
        have g5 : wr.cell? ⟨w0.heap.size, 5, none⟩ = some (.slice bh src.length ch) := (hbq.cell (p := ⟨w0.heap.size, 5, none⟩) (by simp)).trans (newA w0 w0.heap.size _ 37 5 _ rfl rfl)
        have hsz : w0.heap.size + 1 ≤ wr.heap.size := by have := hbq.size; simpa using this
        have hb1 : Below w0.heap.size w0 wr := hb0.trans (hbq.mono (by omega))
        by_cases hjl : j < src.length
        · obtain ⟨b2, of2, cp2, hv, hc2, hcl2⟩ := Sl.at hsr (by omega)
          injection hv with hv1 _ hv3
          subst hv1 hv3
          have hcl3 := hcl2.keeps (Keeps.of_below hb1)
          obtain ⟨d0, d1, d2⟩ := src_cells hcl3 j hjl
          have hsat := any_of_at (fun s => ! okSrc p.length s) src j hjl
          have hsnx := any_take_succ (fun s => ! okSrc p.length s) src j hjl hjany
          have g5x := fun o => Keeps.of_below (below_alloc wr o) _ _ g5
          clear hsr hcl2 hcl3
          generalize src[j] = s at *
          obtain ⟨so, sv, sh⟩ := s
          simp only at *
          by_cases o1 : so = -1
          · have hk0 := okSrc_const (n := p.length) (s := ⟨so, sv, sh⟩) o1
            simp only at hk0
            have o1b : bt 0 so ((p.length : Int) - 1) = false := by subst o1; simp [bt]
            by_cases o2 : bt 0 sv 10006 = true
            · by_cases o3 : sh = 0
              · have o3b : (sh == 0) = true := by simp [o3]
                go_wp2_with (first | (go_at_call 39; refine (within_any _ _ _ _).mono ?_; rintro e w1 ⟨rfl, rfl⟩))
                go_roundw
                case rel => exact ⟨j + 1, by omega, by go_num, hsnx (by rw [hk0]; simp [o2, o3]), hbq.trans ((below_alloc wr _).mono hsz)⟩
                case measure => simp [intOf]; omega
              · have o3b : (sh == 0) = false := by simp [o3]
                go_wp2_with (first | (go_at_call 39; refine (within_any _ _ _ _).mono ?_; rintro e w1 ⟨rfl, rfl⟩))
                go_ret
                exact ⟨by simp [okProg, h, hat (by obtain ⟨h1, h2, h3, h4, h5, h6⟩ := HH.out; simp [hsat (by rw [hk0]; simp [o2, o3])])], hbel.trans ((hb1.trans ((below_alloc wr _).mono hb1.size)).mono hbel.size)⟩
            · replace o2 : bt 0 sv 10006 = false := by simpa using o2
              go_wp2_with (first | (go_at_call 39; refine (within_any _ _ _ _).mono ?_; rintro e w1 ⟨rfl, rfl⟩))
              go_ret
              exact ⟨by simp [okProg, h, hat (by obtain ⟨h1, h2, h3, h4, h5, h6⟩ := HH.out; simp [hsat (by rw [hk0]; simp [o2])])], hbel.trans ((hb1.trans ((below_alloc wr _).mono hb1.size)).mono hbel.size)⟩
          · have hk0 := okSrc_op (n := p.length) (s := ⟨so, sv, sh⟩) o1
            simp only at hk0
            have o1b : (so == -1) = false := by simp [o1]
            by_cases o2 : bt 0 so ((p.length : Int) - 1) = true
            rotate_left
            · replace o2 : bt 0 so ((p.length : Int) - 1) = false := by simpa using o2
              go_wp2_with (first | (go_at_call 39; refine (within_any _ _ _ _).mono ?_; rintro e w1 ⟨rfl, rfl⟩))
              go_ret
              exact ⟨by simp [okProg, h, hat (by obtain ⟨h1, h2, h3, h4, h5, h6⟩ := HH.out; simp [hsat (by rw [hk0]; simp [o2])])], hbel.trans ((hb1.trans ((below_alloc wr _).mono hb1.size)).mono hbel.size)⟩
            by_cases o3 : sv = 0
            rotate_left
            · have o3b : (sv == 0) = false := by simp [o3]
              go_wp2_with (first | (go_at_call 39; refine (within_any _ _ _ _).mono ?_; rintro e w1 ⟨rfl, rfl⟩))
              go_ret
              exact ⟨by simp [okProg, h, hat (by obtain ⟨h1, h2, h3, h4, h5, h6⟩ := HH.out; simp [hsat (by rw [hk0]; simp [o2, o3])])], hbel.trans ((hb1.trans ((below_alloc wr _).mono hb1.size)).mono hbel.size)⟩
            by_cases o4 : bt 0 sh 12 = true
            · have o3b : (sv == 0) = true := by simp [o3]
              go_wp2_with (first | (go_at_call 39; refine (within_any _ _ _ _).mono ?_; rintro e w1 ⟨rfl, rfl⟩))
              go_roundw
              case rel => exact ⟨j + 1, by omega, by go_num, hsnx (by rw [hk0]; simp [o2, o3, o4]), hbq.trans ((below_alloc wr _).mono hsz)⟩
              case measure => simp [intOf]; omega
            · replace o4 : bt 0 sh 12 = false := by simpa using o4
              have o3b : (sv == 0) = true := by simp [o3]
              go_wp2_with (first | (go_at_call 39; refine (within_any _ _ _ _).mono ?_; rintro e w1 ⟨rfl, rfl⟩))
              go_ret
              exact ⟨by simp [okProg, h, hat (by obtain ⟨h1, h2, h3, h4, h5, h6⟩ := HH.out; simp [hsat (by rw [hk0]; simp [o2, o3, o4])])], hbel.trans ((hb1.trans ((below_alloc wr _).mono hb1.size)).mono hbel.size)⟩
        · obtain rfl : j = src.length := by omega
          rw [List.take_length] at hjany
          go_wp2
          go_roundw
          obtain ⟨h1, h2, h3, h4, h5, h6⟩ := HH.out
          case rel => exact ⟨k + 1, by omega, by go_num, hnx (by simp [h1, h2, h3, h4, h5, h6, hjany]), hbel.trans (hb1.mono hbel.size)⟩
          case measure => simp [intOf]; omega
    · obtain rfl : k = p.length := by omega
      go_wp2
      go_ret
      rw [List.take_length] at hany
      exact ⟨by simp [okProg, h, hany], hbel⟩
end Go.Proofs.Ytmjdmpapickgkaa

namespace Go.Proofs.Ytmjdmpapickgkaa
open Go.RowKit Go.Kk

@[go_sem] theorem eq34 (w : World) (a b : Int) : (Op.equalIn 10000 34 (.agg #[.int .i64 a, .int .i64 b]) (.agg #[.int .i64 a, .int .i64 b])).run Try.prog w = .ok true w := by
  obtain ⟨i, hi, h0, h1, h2⟩ := info_parts (show (Try.prog.info? 3).map (fun i => (i.zero, i.size, i.bytes)) = some (some (.int .i64 0), 1, 8) by kernel_rfl)
  have hc : Try.prog.cellsOf 3 = 1 := by kernel_rfl
  have h3 : Try.prog.underlying 3 = some (.int .i64) := by kernel_rfl
  rw [run_equalIn_array w 9999 _ _ (show Try.prog.underlying 34 = some (.array 2 3) by kernel_rfl) hi, hc]
  simp [Op.eqItems, List.range_succ, run_equalIn_int _ 9998 3 .i64 .i64 _ _ h3, go_sem]
  done
end Go.Proofs.Ytmjdmpapickgkaa

namespace Go.Proofs.Ytmjdmpapickgkaa
open Go.RowKit Go.Kk

/-- a program of more than 60 operations, but not too many, or with a long list of sources -/
def wideP (p : List Opn) : Bool := p.any (fun o => decide (8 < o.src.length)) || (decide (60 < p.length) && decide (p.length ≤ 4000)) || decide (4010 < p.length)

set_option maxHeartbeats 1000000 in
theorem wide_any (p : List Opn) (v : Value) (w : World) (hl : IsProg w v p) (hlp : p.length ≤ maxLen) (hls : ∀ o ∈ p, o.src.length ≤ maxLen) :
    Calls Try.prog 10 #[v] w fun e w' => e = .returned (.bool (wideP p)) ∧ w' = w := by
  obtain ⟨bs, cq, hval⟩ := hl.1.shape
  subst hval
  unfold maxLen at hlp
  go_enter Try.func10, Try.ntmps10
  go_wp2
  go_loopw [3] (fun i wr => ∃ k : Nat, k ≤ p.length ∧ i = .int .i64 k ∧ (p.take k).any (fun o => decide (8 < o.src.length)) = false ∧ wr = w) (fun i _ => p.length - (intOf i).toNat)
  case atStart => exact ⟨0, by omega, rfl, by simp, rfl⟩
  case round =>
    obtain ⟨k, hk, rfl, hany, rfl⟩ := hrel
    by_cases hlt : k < p.length
    · obtain ⟨b1, off, cp1, hv, hc, hcl⟩ := Sl.at hl.1 (by omega)
      injection hv with hv1 _ hv3
      subst hv1 hv3
      obtain ⟨c0, c1, c2, c3, c4, c5⟩ := op_cells hcl k hlt
      have hsr := hl.2 p[k] (List.getElem_mem _)
      have hsl := hls p[k] (List.getElem_mem _)
      have hat := any_of_at (fun o : Opn => decide (8 < o.src.length)) p k hlt
      have hnx := any_take_succ (fun o : Opn => decide (8 < o.src.length)) p k hlt hany
      clear hl hcl
      generalize p[k] = o at *
      obtain ⟨t, a0, a1, u, kd, oh, src⟩ := o
      simp only at *
      obtain ⟨bh, ch, hoh⟩ := hsr.shape
      subst hoh
      unfold maxLen at hsl
      by_cases h8 : 8 < src.length
      · go_wp2
        go_ret
        exact ⟨by simp [wideP, hat (by simp [h8])], rfl⟩
      · go_wp2
        go_roundw
        case rel => exact ⟨k + 1, by omega, by go_num, hnx (by simpa using h8), by trivial⟩
        case measure => simp [intOf]; omega
    · obtain rfl : k = p.length := by omega
      rw [List.take_length] at hany
      by_cases h60 : 60 < p.length
      · by_cases h4 : p.length ≤ 4000
        · go_wp2
          go_ret
          exact ⟨by simp [wideP, hany, h60, h4], rfl⟩
        · go_wp2
          go_ret
          have e1 : decide ((p.length : Int) ≤ 4000) = decide (p.length ≤ 4000) := decide_eq_decide.2 (by omega)
          have e2 : decide ((4010 : Int) < p.length) = decide (4010 < p.length) := decide_eq_decide.2 (by omega)
          exact ⟨by simp only [e1, e2]; simp [wideP, hany, h60, h4], rfl⟩
      · go_wp2
        go_ret
        exact ⟨by simp [wideP, hany, h60]; omega, rfl⟩

set_option maxHeartbeats 1000000 in
theorem same_any (l : List Int) (v1 v2 : Value) (w : World) (h1 : IsInts w v1 l) (h2 : IsInts w v2 l) (hl : l.length ≤ maxLen) :
    Calls Try.prog 16 #[v1, v2] w fun e w' => e = .returned (.bool true) ∧ Below w.heap.size w w' := by
  obtain ⟨bs, cq, hval⟩ := h1.shape
  subst hval
  obtain ⟨bs2, cq2, hval⟩ := h2.shape
  subst hval
  unfold maxLen at hl
  go_enter Try.func16, Try.ntmps16
  go_wp2
  go_loopw [5] (fun i wr => ∃ k : Nat, k ≤ l.length ∧ i = .int .i64 k ∧ Below w.heap.size w wr) (fun i _ => l.length - (intOf i).toNat)
  case atStart => exact ⟨0, by omega, rfl, Below.refl _ _⟩
  case round =>
    obtain ⟨k, hk, rfl, hbel⟩ := hrel
    by_cases hlt : k < l.length
    · obtain ⟨b1, off, cp1, hv, hc, hcl⟩ := Sl.at h1 (by omega)
      injection hv with hv1 _ hv3
      subst hv1 hv3
      obtain ⟨b2, of2, cp2, hv, hc2, hcl2⟩ := Sl.at h2 (by omega)
      injection hv with hv1 _ hv3
      subst hv1 hv3
      have c1 := (hcl.keeps (Keeps.of_below hbel)) k _ (I64_get l k hlt)
      have c2 := (hcl2.keeps (Keeps.of_below hbel)) k _ (I64_get l k hlt)
      clear h1 h2 hcl hcl2
      have hki : (k : Int) < (l.length : Int) := by omega
      go_wp2
      go_quiet (fail)
      go_wp2
      go_roundw
      case rel => exact ⟨k + 1, by omega, by go_num, hbel.trans ⟨rfl, rfl, rfl, Nat.le_refl _, fun _ _ => rfl⟩⟩
      case measure => simp [intOf]; omega
    · obtain rfl : k = l.length := by omega
      go_wp2
      go_ret
      exact ⟨rfl, hbel⟩
/-- an operation without the place of its sources -/
def Opn.bare (o : Opn) : Opn := { o with h := .nilFunc }
theorem below_drewN' {B : Nat} {a w : World} (h : Below B a w) (q : Nat) : Below B a (w.drewN q) := ⟨h.os, h.tape, h.output, h.size, h.block⟩
theorem bare_time {o q : Opn} (h : o.bare = q.bare) : o.time = q.time ∧ o.c0 = q.c0 ∧ o.c1 = q.c1 ∧ o.unit = q.unit ∧ o.kind = q.kind ∧ o.src = q.src := by
  obtain ⟨_, _, _, _, _, _, _⟩ := o
  obtain ⟨_, _, _, _, _, _, _⟩ := q
  simp only [Opn.bare, Opn.mk.injEq] at h
  obtain ⟨h1, h2, h3, h4, h5, _, h6⟩ := h
  exact ⟨h1, h2, h3, h4, h5, h6⟩

set_option maxRecDepth 100000 in
set_option maxHeartbeats 4000000 in
theorem sameOps_any (p q : List Opn) (v1 v2 : Value) (w : World) (h1 : IsProg w v1 p) (h2 : IsProg w v2 q) (hpq : p.map Opn.bare = q.map Opn.bare) (hn : Narrow p) :
    Calls Try.prog 31 #[v1, v2] w fun e w' => e = .returned (.bool true) ∧ Below w.heap.size w w' := by
  have hpl : p.length = q.length := by simpa using congrArg List.length hpq
  have hsl := hn.1
  obtain ⟨bs, cq, hval⟩ := h1.1.shape
  subst hval
  obtain ⟨bs2, cq2, hval⟩ := h2.1.shape
  subst hval
  have h21 := h2.1
  have h22 := h2.2
  clear h2
  rw [← hpl] at h21 ⊢
  have HPL := Lib.hid hpl
  clear hpl
  go_enter Try.func31, Try.ntmps31
  go_wp2
  go_loopw [5] (fun i wr => ∃ k : Nat, k ≤ p.length ∧ i = .int .i64 k ∧ Below w.heap.size w wr) (fun i _ => p.length - (intOf i).toNat)
  case atStart => exact ⟨0, by omega, rfl, Below.refl _ _⟩
  case round =>
    obtain ⟨k, hk, rfl, hbel⟩ := hrel
    by_cases hlt : k < p.length
    · obtain ⟨b1, off, cp1, hv, hc, hcl⟩ := Sl.at h1.1 (by omega)
      injection hv with hv1 _ hv3
      subst hv1 hv3
      obtain ⟨b2, of2, cp2, hv, hc2, hcl2⟩ := Sl.at h21 (by omega)
      injection hv with hv1 _ hv3
      subst hv1 hv3
      obtain ⟨c0, c1, c2, c3, c4, c5⟩ := op_cells (hcl.keeps (Keeps.of_below hbel)) k hlt
      obtain ⟨d0, d1, d2, d3, d4, d5⟩ := op_cells (hcl2.keeps (Keeps.of_below hbel)) k (by have := HPL.out; omega)
      have hs1 := (h1.2 p[k] (List.getElem_mem _)).keeps (Keeps.of_below hbel)
      have hs2 := (h22 (q[k]'(by have := HPL.out; omega)) (List.getElem_mem _)).keeps (Keeps.of_below hbel)
      have he : p[k].bare = (q[k]'(by have := HPL.out; omega)).bare := by
        have hpl := HPL.out
        have := congrArg (fun l => l[k]?) hpq
        simpa [hlt, show k < q.length by omega] using this
      obtain ⟨e0, e1, e2, e3, e4, e5⟩ := bare_time he
      have hsk := hn.2 p[k] (List.getElem_mem _)
      clear h1 h21 h22 hcl hcl2 he
      rw [← e0] at d0
      rw [← e1] at d1
      rw [← e2] at d2
      rw [← e3] at d3
      rw [← e4] at d4
      rw [← e5] at hs2
      clear e0 e1 e2 e3 e4 e5
      generalize (q[k]'(by have := HPL.out; omega)).h = qh at *
      generalize p[k] = o at *
      obtain ⟨t, a0, a1, u, kd, oh, src⟩ := o
      simp only at *
      obtain ⟨bh, ch, hoh⟩ := hs1.shape
      subst hoh
      obtain ⟨bg, cg, hog⟩ := hs2.shape
      subst hog
      have hki : (k : Int) < (p.length : Int) := by omega
      have c0x := fun o => Keeps.of_below (below_alloc wr o) _ _ c0
      have c0y := fun o o' => Keeps.of_below (below_alloc2 wr o o') _ _ c0
      have c1x := fun o => Keeps.of_below (below_alloc wr o) _ _ c1
      have c1y := fun o o' => Keeps.of_below (below_alloc2 wr o o') _ _ c1
      have c2x := fun o => Keeps.of_below (below_alloc wr o) _ _ c2
      have c2y := fun o o' => Keeps.of_below (below_alloc2 wr o o') _ _ c2
      have c3x := fun o => Keeps.of_below (below_alloc wr o) _ _ c3
      have c3y := fun o o' => Keeps.of_below (below_alloc2 wr o o') _ _ c3
      have c4x := fun o => Keeps.of_below (below_alloc wr o) _ _ c4
      have c4y := fun o o' => Keeps.of_below (below_alloc2 wr o o') _ _ c4
      have c5x := fun o => Keeps.of_below (below_alloc wr o) _ _ c5
      have c5y := fun o o' => Keeps.of_below (below_alloc2 wr o o') _ _ c5
      have d0x := fun o => Keeps.of_below (below_alloc wr o) _ _ d0
      have d0y := fun o o' => Keeps.of_below (below_alloc2 wr o o') _ _ d0
      have d1x := fun o => Keeps.of_below (below_alloc wr o) _ _ d1
      have d1y := fun o o' => Keeps.of_below (below_alloc2 wr o o') _ _ d1
      have d2x := fun o => Keeps.of_below (below_alloc wr o) _ _ d2
      have d2y := fun o o' => Keeps.of_below (below_alloc2 wr o o') _ _ d2
      have d3x := fun o => Keeps.of_below (below_alloc wr o) _ _ d3
      have d3y := fun o o' => Keeps.of_below (below_alloc2 wr o o') _ _ d3
      have d4x := fun o => Keeps.of_below (below_alloc wr o) _ _ d4
      have d4y := fun o o' => Keeps.of_below (below_alloc2 wr o o') _ _ d4
      have d5x := fun o => Keeps.of_below (below_alloc wr o) _ _ d5
      have d5y := fun o o' => Keeps.of_below (below_alloc2 wr o o') _ _ d5
      go_wp2
      go_region
      all_goals clear c0x c0y c1x c1y c2x c2y c3x c3y c4x c4y c5x c5y d0x d0y d1x d1y d2x d2y d3x d3y d4x d4y d5x d5y
      · go_wp2
        obtain ⟨w0, hw0⟩ : ∃ x, x = wr := ⟨wr, rfl⟩
        subst hw0
        go_loopw [8] (fun i wr => ∃ j : Nat, j ≤ src.length ∧ i = .int .i64 j ∧ Below w0.heap.size w0 wr ∧ wr.cell? ⟨w0.heap.size, 5, none⟩ = some (.slice bh src.length ch) ∧ wr.cell? ⟨w0.heap.size + 1, 5, none⟩ = some (.slice bg src.length cg)) (fun i _ => src.length - (intOf i).toNat)
        case atStart => exact ⟨0, by omega, rfl, ((below_alloc2 w0 _ _).drew), Keeps.of_below (below_alloc _ _) _ _ (newA w0 _ _ 37 5 _ rfl rfl), newA _ _ _ 37 5 _ (by simp) rfl⟩
        case round =>
          obtain ⟨j, hj, rfl, hbq, g1, g2⟩ := hrel
          by_cases hjl : j < src.length
          · obtain ⟨b3, of3, cp3, hv, hc3, hcl3⟩ := Sl.at hs1 (by omega)
            injection hv with hv1 _ hv3
            subst hv1 hv3
            obtain ⟨b4, of4, cp4, hv, hc4, hcl4⟩ := Sl.at hs2 (by omega)
            injection hv with hv1 _ hv3
            subst hv1 hv3
            obtain ⟨x0, x1, x2⟩ := src_cells (hcl3.keeps (Keeps.of_below hbq)) j hjl
            obtain ⟨y0, y1, y2⟩ := src_cells (hcl4.keeps (Keeps.of_below hbq)) j hjl
            clear hs1 hs2 hcl3 hcl4
            have hji : (j : Int) < (src.length : Int) := by omega
            go_wp2
            go_quiet (fail)
            go_wp2
            go_roundw
            case rel => exact ⟨j + 1, by omega, by go_num, (below_drewN' hbq nq), g1, g2⟩
            case measure => simp [intOf]; omega
          · obtain rfl : j = src.length := by omega
            go_wp2
            go_roundw
            case rel => exact ⟨k + 1, by omega, by go_num, hbel.trans (hbq.mono hbel.size)⟩
            case measure => simp [intOf]; omega
      · go_wp2
        obtain ⟨w0, hw0⟩ : ∃ x, x = wr := ⟨wr, rfl⟩
        subst hw0
        go_loopw [8] (fun i wr => ∃ j : Nat, j ≤ src.length ∧ i = .int .i64 j ∧ Below w0.heap.size w0 wr ∧ wr.cell? ⟨w0.heap.size, 5, none⟩ = some (.slice bg src.length cg) ∧ wr.cell? ⟨w0.heap.size + 1, 5, none⟩ = some (.slice bh src.length ch)) (fun i _ => src.length - (intOf i).toNat)
        case atStart => exact ⟨0, by omega, rfl, ((below_alloc2 w0 _ _).drew), Keeps.of_below (below_alloc _ _) _ _ (newA w0 _ _ 37 5 _ rfl rfl), newA _ _ _ 37 5 _ (by simp) rfl⟩
        case round =>
          obtain ⟨j, hj, rfl, hbq, g1, g2⟩ := hrel
          by_cases hjl : j < src.length
          · obtain ⟨b3, of3, cp3, hv, hc3, hcl3⟩ := Sl.at hs1 (by omega)
            injection hv with hv1 _ hv3
            subst hv1 hv3
            obtain ⟨b4, of4, cp4, hv, hc4, hcl4⟩ := Sl.at hs2 (by omega)
            injection hv with hv1 _ hv3
            subst hv1 hv3
            obtain ⟨x0, x1, x2⟩ := src_cells (hcl3.keeps (Keeps.of_below hbq)) j hjl
            obtain ⟨y0, y1, y2⟩ := src_cells (hcl4.keeps (Keeps.of_below hbq)) j hjl
            clear hs1 hs2 hcl3 hcl4
            have hji : (j : Int) < (src.length : Int) := by omega
            go_wp2
            go_quiet (fail)
            go_wp2
            go_roundw
            case rel => exact ⟨j + 1, by omega, by go_num, (below_drewN' hbq nq), g1, g2⟩
            case measure => simp [intOf]; omega
          · obtain rfl : j = src.length := by omega
            go_wp2
            go_roundw
            case rel => exact ⟨k + 1, by omega, by go_num, hbel.trans (hbq.mono hbel.size)⟩
            case measure => simp [intOf]; omega
    · obtain rfl : k = p.length := by omega
      go_wp2
      go_ret
      exact ⟨rfl, hbel⟩
end Go.Proofs.Ytmjdmpapickgkaa
