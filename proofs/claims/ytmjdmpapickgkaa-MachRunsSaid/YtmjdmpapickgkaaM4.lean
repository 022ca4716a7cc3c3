import Derived.Test.YtmjdmpapickgkaaM3
import Derived.Deep.QuietTactic
import Derived.BigQuiet
import Derived.Deep.DeepFit
namespace Go.Proofs.Ytmjdmpapickgkaa
open Go.RowKit Go.Kk Go.WideMaps

set_option maxHeartbeats 2000000 in
theorem refMeet_any (p : List Opn) (v : Value) (w : World) (hl : IsProg w v p) (hok : okProg p = true) :
    Calls Try.prog 41 #[v] w fun e w' => e = .returned (meetV p) ∧ Below w.heap.size w w' := by
  obtain ⟨bs, cq, hval⟩ := hl.1.shape
  subst hval
  have hlp := okProg_len hok
  have hmm := @run_makeMap Try.prog
  go_enter Try.func41, Try.ntmps41
  go_wp2
  go_loopw [6] (fun i wr => ∃ k : Nat, k ≤ p.length ∧ i = .int .i64 k ∧ Below w.heap.size w wr ∧ MGrp Try.prog 77 3 wr (w.heap.size + 1) w.heap.size k (grpL keyR p k)) (fun i _ => p.length - (intOf i).toNat)
  case atStart => exact ⟨0, by omega, rfl, below_alloc _ _, MGrp.made _ _ _ _ _ (grpL_zero _ _)⟩
  case round =>
    obtain ⟨k, hk, rfl, hbel, hgr⟩ := hrel
    by_cases hlt : k < p.length
    · obtain ⟨b1, off, cp1, hv, hc, hcl⟩ := Sl.at hl.1 (by omega)
      injection hv with hv1 _ hv3
      subst hv1 hv3
      have hcl' := hcl.keeps (Keeps.of_below hbel)
      obtain ⟨c0, c1, c2, c3, c4, c5⟩ := op_cells hcl' k hlt
      have ho := opn_eq hlt
      have hkey := keyOfR (opn p k) p.length (ho ▸ okProg_op hok k hlt)
      obtain ⟨kl, hkey⟩ := hkey
      have hgl := grpL_len keyR p k
      have hs1 := grpL_same keyR p k _ rfl
      have hs2 := grpL_other keyR p k
      rw [← ho] at c0 c1 c2 c3 c4 c5
      obtain ⟨bh, ch, hoh⟩ := (hl.2 p[k] (List.getElem_mem _)).shape
      rw [← ho] at hoh
      have HL := Lib.hid hl
      clear hl hcl hcl' ho
      have hgl' := hgl (keyR (opn p k))
      clear hgl
      have hkm : keyR (opn p k) = .agg #[.int .i64 (opn p k).time, .int .i64 (opn p k).unit, .int .i64 (opn p k).c0, .int .i64 (opn p k).c1] := rfl
      simp only [hkm] at hkey hs1 hs2 hgl'
      clear hkm
      generalize opn p k = o at *
      obtain ⟨t, a0, a1, u, kd, oh, src⟩ := o
      simp only at *
      subst hoh
      have HS := Lib.hid (And.intro hs1 hs2)
      clear hs1 hs2
      have c0x := fun o => Keeps.of_below (below_alloc wr o) _ _ c0
      have c1x := fun o => Keeps.of_below (below_alloc wr o) _ _ c1
      have c2x := fun o => Keeps.of_below (below_alloc wr o) _ _ c2
      have c3x := fun o => Keeps.of_below (below_alloc wr o) _ _ c3
      go_wp2
      go_region
      all_goals clear c0x c1x c2x c3x
      go_wp2_with (first
        | (refine wpList_entry (key := .agg #[.int .i64 t, .int .i64 u, .int .i64 a0, .int .i64 a1]) rfl _ _ _ rfl (by first | exact (hgr.alloc _).drew.alloc _ | exact ((hgr.alloc _).alloc _).drew) lawR Try.underlying75 zero25 (by unfold maxLen; omega) rfl rfl hkey ?_; intro v st w1 hg1 hk1 hown1 hback)
        | (at_builtin; go_must (refine wpList_append_at rfl _ _ _ rfl slT25 v rfl hown1 (vx := .slice (some ⟨wr.heap.size + 1, 0, none⟩) 1 1) (m := 1) (news := [.int .i64 k]) rfl (by first | exact (sl_new1 _ _ (by simp) _ _).keeps hk1 | exact ((sl_new1 _ _ (by simp) _ _).keeps (Keeps.drew _)).keeps hk1) (by simp [Value.oneCell']) (by have := hgl' ; unfold maxLen; omega) (by have := hgl' ; omega) (by have h := hg1.size; simp at h; have := hbel.size; omega) _ _ rfl rfl ?_); intro v' w2 hown2 hg2 hat2)
        | (refine wpList_back rfl _ _ _ _ rfl hback rfl rfl rfl hg2 hown2 hat2 (grpL keyR p (k + 1)) HS.out.1 HS.out.2 ?_; intro w3 hg3 hk3 hgr3))
      have hb3 : Below w.heap.size w w3 := by
        have q1 : Below w.heap.size w w1 := (by first | exact ((hbel.alloc hbel.size _).drew.alloc (by have := hbel.size; simp; omega) _) | exact ((hbel.alloc hbel.size _).alloc (by have := hbel.size; simp; omega) _).drew : Below w.heap.size w _).grown hg1 (by have := hbel.size; simp; omega) (by rintro j hj; injection hj with hj; omega)
        have q2 : Below w.heap.size w w2 := q1.grown hg2 q1.size (fun j hj => by have := (hown1.lt j hj).1; omega)
        exact q2.grown hg3 q2.size (by rintro j hj; injection hj with hj; omega)
      clear hg1 hk1 hown1 hback hown2 hg2 hat2 hg3 hk3 hgr hbel
      go_roundw
      case rel => exact ⟨k + 1, by omega, by go_num, hb3, hgr3⟩
      case measure => simp [intOf]; omega
    · obtain rfl : k = p.length := by omega
      clear hlt
      go_wp2
      obtain ⟨w0, hw0⟩ : ∃ x, x = wr := ⟨wr, rfl⟩
      subst hw0
      go_loopw [8] (fun i wr => ∃ k : Nat, k ≤ p.length ∧ i = .int .i64 k ∧ Below w.heap.size w wr ∧ MGrp Try.prog 77 3 wr (w.heap.size + 1) w.heap.size p.length (grpL keyR p p.length) ∧ Hid (∀ j, j < k → (grp p p.length (opn p j)).length ≤ 1)) (fun i _ => p.length - (intOf i).toNat)
      case atStart => exact ⟨0, by omega, rfl, hbel, hgr, Lib.hid fun j hj => by omega⟩
      case round =>
        clear hbel hgr
        obtain ⟨k, hk, rfl, hbel, hgr, HF⟩ := hrel
        by_cases hlt : k < p.length
        · obtain ⟨b1, off, cp1, hv, hc, hcl⟩ := Sl.at hl.1 (by omega)
          injection hv with hv1 _ hv3
          subst hv1 hv3
          have hcl' := hcl.keeps (Keeps.of_below hbel)
          obtain ⟨c0, c1, c2, c3, c4, c5⟩ := op_cells hcl' k hlt
          have ho := opn_eq hlt
          obtain ⟨kl, hkey⟩ := keyOfR (opn p k) p.length (ho ▸ okProg_op hok k hlt)
          obtain ⟨lv, hrun, hown⟩ := hgr.lookN (Maps.Keyed.of_law lawR) Try.underlying75 zero25 (by unfold maxLen; omega) hkey
          rw [grpL_key keyR keyR_iff] at hown
          rw [← ho] at c0 c1 c2 c3 c4 c5
          obtain ⟨bh, ch, hoh⟩ := (hl.2 p[k] (List.getElem_mem _)).shape
          rw [← ho] at hoh
          have HG : Hid (∀ x, x = (grp p p.length (opn p k)) → (x.length ≤ 1 → ∀ j, j < k + 1 → (grp p p.length (opn p j)).length ≤ 1) ∧ (1 < x.length → meetV p = .tuple #[.int .i64 k, .int .i64 (x[1]! : Nat), .bool true] ∧ x[0]! = k)) := Lib.hid fun x hx => by
            subst hx
            refine ⟨fun h1 j hj => ?_, fun h1 => ?_⟩
            · by_cases e : j = k
              · subst e; exact h1
              · exact HF.out j (by omega)
            · refine ⟨?_, meets_head hlt h1 HF.out⟩
              unfold meetV
              rw [meets_some hlt h1 HF.out]
          have HL := Lib.hid hl
          have hgx : (grp p p.length (opn p k)).length ≤ p.length := Nat.le_trans (List.length_filter_le _ _) (by simp)
          clear hl hcl hcl' ho hkey
          have hkm : keyR (opn p k) = .agg #[.int .i64 (opn p k).time, .int .i64 (opn p k).unit, .int .i64 (opn p k).c0, .int .i64 (opn p k).c1] := rfl
          rw [hkm] at hrun
          clear hkm
          generalize hg : grp p p.length (opn p k) = g at *
          have HG := Lib.hid (HG.out _ rfl)
          clear hg
          generalize opn p k = o at *
          obtain ⟨t, a0, a1, u, kd, oh, src⟩ := o
          simp only at *
          subst hoh
          obtain ⟨bv, cv, rfl⟩ := (Sl.of_own hown).shape
          rw [List.length_map] at hown hrun
          by_cases h1 : 1 < g.length
          · have HM := Lib.hid (HG.out.2 h1)
            obtain ⟨b2, of2, cp2, hv, hc2, hcl2⟩ := Sl.at (Sl.of_own hown) (by omega)
            injection hv with hv1 _ hv3
            subst hv1 hv3
            have d0 := hcl2 0 (.int .i64 (g[0]! : Nat)) (by simp [I64k, show 0 < g.length by omega])
            rw [HM.out.2, Nat.add_zero] at d0
            have d1 := hcl2 1 (.int .i64 (g[1]! : Nat)) (by simp [I64k, h1])
            generalize g[1]! = y at *
            have h1i : (1 : Int) < (g.length : Int) := by omega
            clear hcl2 hown
            go_wp2
            go_quiet (fail)
            go_wp2
            go_quiet (fail)
            go_wp2
            go_ret3
            exact ⟨by rw [HM.out.1]; rfl, below_drewN' (below_drewN' hbel _) _⟩
          · have HN := Lib.hid (HG.out.1 (by omega))
            have h1i : ¬ (1 : Int) < (g.length : Int) := by omega
            go_wp2
            go_quiet (fail)
            go_wp2
            go_roundw
            case rel => exact ⟨k + 1, by omega, by go_num, below_drewN' hbel _, hgr.drewN _, HN⟩
            case measure => simp [intOf]; omega
        · obtain rfl : k = p.length := by omega
          go_wp2
          go_ret3
          refine ⟨?_, hbel⟩
          unfold meetV
          rw [meets_none HF.out]
          rfl
end Go.Proofs.Ytmjdmpapickgkaa
