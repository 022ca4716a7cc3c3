import Derived.Test.YtlelbkljhbkjdaaE1
namespace Go.Proofs.Ytlelbkljhbkjdaa
open Go.RowKit Go.Kk

def S0 : St := { sf := fun _ => [], lo := fun _ => [], down := false, armed := 0 }

theorem newH (W : World) (b : Nat) (o : Obj) (hb : b = W.heap.size) : (W.alloc o).heap[b]? = some o := by subst hb; exact heap_alloc_new _ _

theorem newD (W : World) (b : Nat) (cs : Array Value) (t : TypeId) (i : Nat) (v : Value) (hb : b = W.heap.size) (hv : cs[i]? = some v) : (W.alloc (.cells cs t)).drew.cell? ⟨b, i, none⟩ = some v := newA W b cs t i v hb hv

set_option maxRecDepth 100000 in
set_option maxHeartbeats 4000000 in
theorem racks_any {w : World} (b off len cap : Nat) (ms : Nat → Mv) (hm : ∀ i, i < len → MvAt w b (off + i * 7) (ms i)) (hl : len ≤ 9223372036854775807) :
    Calls Try.prog 3 #[.slice (some ⟨b, off, none⟩) len cap] w fun e w' => e = .returned (.bool true) ∧ Below w.heap.size w w' := by
  by_cases hbig : 40 < len
  · have hbig' : (40 : Int) < len := by omega
    go_enter Try.func3, Try.ntmps3
    go_wp2_with (go_at_call 4; refine (sane_any _).mono ?_; rintro e w1 ⟨rfl, hb⟩)
    go_ret
    exact ⟨rfl, hb⟩
  · have hbig' : ¬ (40 : Int) < len := by omega
    go_enter Try.func3, Try.ntmps3
    go_wp2_with (first | (go_at_call 4; refine (sane_any _).mono ?_; rintro e w1 ⟨rfl, hb⟩) | (go_at_call 5; go_in))
    go_loopw [3, 4, 5] (fun r m i wr => ∃ (k R D M : Nat) (S : St), k ≤ len ∧ i = .int .i64 k ∧ r = .pointer (some ⟨R, 0, none⟩) ∧ m = .pointer (some ⟨M, 0, none⟩) ∧ Both w R D M S (100 * k) wr) (fun _ _ i _ => len - (intOf i).toNat)
    case atStart =>
      refine ⟨0, _, w.heap.size, _, S0, by omega, rfl, rfl, rfl, ⟨⟨⟨0, ?_⟩, ⟨_, _, _, _, _, _, ?_, Sb.nil _, Sb.nil _, Sb.nil _, Sb.nil _, Sb.nil _, Sb.nil _⟩, by simp [S0], by simp [S0]⟩, ⟨⟨_, _, _, ?_, Sb.nil _, Sb.nil _, Sb.nil _⟩, by simp [S0], by simp [S0]⟩, by omega, by omega, by omega, by simp [S0], ?_⟩⟩
      · rw [Below.heap_alloc _ _ _ (by simp)]
        exact newH _ _ _ (by simp)
      · rw [Below.heap_alloc _ _ _ (by simp; omega), Below.heap_alloc _ _ _ (by simp)]
        exact heap_alloc_new _ _
      · exact newH _ _ _ (by simp)
      · exact (below_alloc2 _ _ _).alloc (by simp; omega) _
    case round =>
      obtain ⟨k, R, D, M, S, hk, rfl, rfl, rfl, hB⟩ := hrel
      by_cases hlt : k < len
      · obtain ⟨w0, w255, hn, c0, c1, c2, ⟨bv, c3, hs⟩, c4, c5, c6⟩ := hm k hlt
        have hkp := Keeps.of_below hB.below
        replace c0 := hkp _ _ c0
        replace c1 := hkp _ _ c1
        replace c2 := hkp _ _ c2
        replace c3 := hkp _ _ c3
        replace c4 := hkp _ _ c4
        replace c5 := hkp _ _ c5
        replace c6 := hkp _ _ c6
        generalize ms k = mv at *
        obtain ⟨bb, bc, rfl⟩ := hs.shape
        have hBA := fun x => hB.later (below_alloc wr x)
        have hX : ¬ (wr.heap.size = R ∨ wr.heap.size = D) := by have := hB.lt; omega
        have hX' : ¬ (wr.heap.size = M) := by have := hB.lt; omega
        have hle : 100 * k ≤ 100 * (k + 1) := by omega
        clear hkp
        go_wp2_with (first | (go_at_call 4; refine (sane_any _).mono ?_; rintro e w1 ⟨rfl, hb⟩) | (go_at_call 12; refine (arm_any (hBA _).rack mv.n hn).mono ?_; rintro e w1 ⟨rfl, hr1, hf1⟩; have hm1 := (hBA _).ref.fr (hBA _).rack hf1; have x2 := hf1.cell (newA _ _ _ _ 2 _ rfl rfl) hX) | (go_at_call 13; refine (rarm_any hm1 mv.n hn).mono ?_; rintro e w2 ⟨rfl, hm2, hf2⟩; have hB2 := (hBA _).step hf1 hr1 hf2 hm2 (t' := 100 * (k + 1)) (le_more hB.len hle); clear hf1 hr1 hf2 hm2 hm1) | (go_at_call 14; refine (crash_any (hBA _).rack mv.kp).mono ?_; rintro e w1 ⟨rfl, hr1, hf1⟩; have hm1 := (hBA _).ref.fr (hBA _).rack hf1; have x4 := hf1.cell (newA _ _ _ _ 4 _ rfl rfl) hX; have x5 := hf1.cell (newA _ _ _ _ 5 _ rfl rfl) hX; have x6 := hf1.cell (newA _ _ _ _ 6 _ rfl rfl) hX) | (go_at_call 15; refine (rcrash_any hm1 mv.kp).mono ?_; rintro e w2 ⟨rfl, hm2, hf2⟩; have hB2 := (hBA _).step hf1 hr1 hf2 hm2 (t' := 100 * (k + 1)) (crash_len (le_more hB.len hle)); clear hf1 hr1 hf2 hm2 hm1) | (go_at_call 16; refine (lose_any (hBA _).rack mv.disk).mono ?_; rintro e w1 ⟨rfl, hr1, hf1⟩; have hm1 := (hBA _).ref.fr (hBA _).rack hf1; have x1 := hf1.cell (newA _ _ _ _ 1 _ rfl rfl) hX) | (go_at_call 17; refine (rlose_any hm1 mv.disk).mono ?_; rintro e w2 ⟨rfl, hm2, hf2⟩; have hB2 := (hBA _).step hf1 hr1 hf2 hm2 (t' := 100 * (k + 1)) (lose_len (le_more hB.len hle)); clear hf1 hr1 hf2 hm2 hm1) | (go_at_call 18; refine (copy_any (hBA _).rack).mono ?_; rintro e w1 ⟨R', D', S', rfl, hr1, hcg, hcd, hca, hR', hD', hb1⟩; have hm1 := (hBA _).ref.below hb1; have hr2 := hr1.congr hcg hcd hca; have hB1 := (hBA _).later hb1; have hsR : w.heap.size ≤ R' := Nat.le_trans (by have := hB.below.size; simp; omega) hR'; have hsD : w.heap.size ≤ D' := Nat.le_trans (by have := hB.below.size; simp; omega) hD'; clear hr1 hcg hcd hca) | (go_at_call 19; refine (rcopy_any hm1).mono ?_; rintro e w2 ⟨M', rfl, hm2, hM', hb2⟩; have hB2 : Both w R' D' M' S (100 * (k + 1)) w2 := ⟨hr2.below hb2, hm2, hsR, hsD, Nat.le_trans hB1.below.size hM', le_more hB.len hle, (hB1.later hb2).below⟩; clear hr2 hm2 hm1) | (go_at_call 20; refine (down_any hB2.rack).mono ?_; rintro e w3 ⟨rfl, rfl⟩) | (go_at_call 21; refine (rdown_any hB2.ref).mono ?_; rintro e w3 ⟨rfl, rfl⟩) | (go_at_call 22; refine (disks_any hB2.rack hB2.ref).mono ?_; rintro e w3 ⟨rfl, hb3⟩; have hB3 := hB2.later hb3))
        · go_ret
          exact ⟨rfl, hB.below.trans (((below_alloc _ _).trans (hb.mono (by simp))).mono hB.below.size)⟩
        · have hBd := hB.later (below_new wr (.cells #[.int .u8 mv.what, .int .i64 mv.disk, .int .i64 mv.n, .slice bb mv.bs.length bc, .int .i64 mv.k0, .int .i64 mv.k1, .int .i64 mv.k2] 33))
          have x1 := newD wr wr.heap.size  #[.int .u8 mv.what, .int .i64 mv.disk, .int .i64 mv.n, .slice bb mv.bs.length bc, .int .i64 mv.k0, .int .i64 mv.k1, .int .i64 mv.k2] 33 1 _ rfl rfl
          have x3 := newD wr wr.heap.size  #[.int .u8 mv.what, .int .i64 mv.disk, .int .i64 mv.n, .slice bb mv.bs.length bc, .int .i64 mv.k0, .int .i64 mv.k1, .int .i64 mv.k2] 33 3 _ rfl rfl
          have hbs : mv.bs.length ≤ 100 := by omega
          have hs2 : ∀ w1, Below w.heap.size w w1 → Sl w1 1 (.slice bb mv.bs.length bc) mv.bs.length (B8 mv.bs) := fun w1 hb => hs.keeps (Keeps.of_below hb)
          have hlen : ∀ d, d < 3 → (S.sf d).length + (S.lo d).length + mv.bs.length ≤ 100000 := fun d hd => by have := hB.len d hd; omega
          go_region_held3 (fun w' => w'.cell? ⟨wr.heap.size, 1, none⟩ = some (.int .i64 mv.disk) ∧ w'.cell? ⟨wr.heap.size, 3, none⟩ = some (.slice bb mv.bs.length bc)) (go_keep) ((first | (go_at_call 6; refine (append_any hBd.rack mv.disk _ mv.bs (fun w1 hf => hs2 w1 (hBd.below.trans (hBd.fr1 hf))) hlen).mono ?_; rintro e w1 ⟨rfl, hr1, hf1⟩; have hm1 := hBd.ref.fr hBd.rack hf1; have y1 := hf1.cell x1 hX; have y3 := hf1.cell x3 hX) | (go_at_call 7; refine (rappend_any hm1 mv.disk _ mv.bs (fun w2 hf => hs2 w2 ((hBd.below.trans (hBd.fr1 hf1)).trans (hf.below (Nat.le_trans hBd.below.size hf1.size) (fun k hk => by subst hk; exact hBd.bM)))) hlen).mono ?_; rintro e w2 ⟨rfl, hm2, hf2⟩; have hB2 := hBd.step hf1 hr1 hf2 hm2 (t' := 100 * (k + 1)) (done_len (le_more hB.len hle) (le_more (app_len hB.len) (by omega))); have z1 := hf2.cell y1 hX'; have z3 := hf2.cell y3 hX')))
          clear hr1 hf1 hm1 hm2 hf2
          go_wp2_with (first | (go_at_call 20; refine (down_any hB2.rack).mono ?_; rintro e w3 ⟨rfl, rfl⟩) | (go_at_call 21; refine (rdown_any hB2.ref).mono ?_; rintro e w3 ⟨rfl, rfl⟩) | (go_at_call 22; refine (disks_any hB2.rack hB2.ref).mono ?_; rintro e w3 ⟨rfl, hb3⟩; have hB3 := hB2.later hb3))
          go_roundw
          case rel => exact ⟨k + 1, R, D, M, _, by omega, by go_num, rfl, rfl, hB3⟩
          case measure => simp [intOf]; omega
        · have hBd := hB.later (below_new wr (.cells #[.int .u8 mv.what, .int .i64 mv.disk, .int .i64 mv.n, .slice bb mv.bs.length bc, .int .i64 mv.k0, .int .i64 mv.k1, .int .i64 mv.k2] 33))
          have x1 := newD wr wr.heap.size  #[.int .u8 mv.what, .int .i64 mv.disk, .int .i64 mv.n, .slice bb mv.bs.length bc, .int .i64 mv.k0, .int .i64 mv.k1, .int .i64 mv.k2] 33 1 _ rfl rfl
          go_region_held3 (fun w' => w'.cell? ⟨wr.heap.size, 1, none⟩ = some (.int .i64 mv.disk)) (go_keep) ((first | (go_at_call 8; refine (sync_any hBd.rack mv.disk).mono ?_; rintro e w1 ⟨rfl, hr1, hf1⟩; have hm1 := hBd.ref.fr hBd.rack hf1; have y1 := hf1.cell x1 hX) | (go_at_call 9; refine (rsync_any hm1 mv.disk).mono ?_; rintro e w2 ⟨rfl, hm2, hf2⟩; have hB2 := hBd.step hf1 hr1 hf2 hm2 (t' := 100 * (k + 1)) (done_len (le_more hB.len hle) (sync_len (le_more hB.len hle))); have z1 := hf2.cell y1 hX')))
          clear hr1 hf1 hm1 hm2 hf2
          go_wp2_with (first | (go_at_call 20; refine (down_any hB2.rack).mono ?_; rintro e w3 ⟨rfl, rfl⟩) | (go_at_call 21; refine (rdown_any hB2.ref).mono ?_; rintro e w3 ⟨rfl, rfl⟩) | (go_at_call 22; refine (disks_any hB2.rack hB2.ref).mono ?_; rintro e w3 ⟨rfl, hb3⟩; have hB3 := hB2.later hb3))
          go_roundw
          case rel => exact ⟨k + 1, R, D, M, _, by omega, by go_num, rfl, rfl, hB3⟩
          case measure => simp [intOf]; omega
        · have hBd := hB.later (below_new wr (.cells #[.int .u8 mv.what, .int .i64 mv.disk, .int .i64 mv.n, .slice bb mv.bs.length bc, .int .i64 mv.k0, .int .i64 mv.k1, .int .i64 mv.k2] 33))
          have x1 := newD wr wr.heap.size  #[.int .u8 mv.what, .int .i64 mv.disk, .int .i64 mv.n, .slice bb mv.bs.length bc, .int .i64 mv.k0, .int .i64 mv.k1, .int .i64 mv.k2] 33 1 _ rfl rfl
          have x2 := newD wr wr.heap.size  #[.int .u8 mv.what, .int .i64 mv.disk, .int .i64 mv.n, .slice bb mv.bs.length bc, .int .i64 mv.k0, .int .i64 mv.k1, .int .i64 mv.k2] 33 2 _ rfl rfl
          go_region_held3 (fun w' => w'.cell? ⟨wr.heap.size, 1, none⟩ = some (.int .i64 mv.disk) ∧ w'.cell? ⟨wr.heap.size, 2, none⟩ = some (.int .i64 mv.n)) (go_keep) ((first | (go_at_call 10; refine (trim_any hBd.rack mv.disk mv.n).mono ?_; rintro e w1 ⟨rfl, hr1, hf1⟩; have hm1 := hBd.ref.fr hBd.rack hf1; have y1 := hf1.cell x1 hX; have y2 := hf1.cell x2 hX) | (go_at_call 11; refine (rtrim_any hm1 mv.disk mv.n).mono ?_; rintro e w2 ⟨rfl, hm2, hf2⟩; have hB2 := hBd.step hf1 hr1 hf2 hm2 (t' := 100 * (k + 1)) (done_len (le_more hB.len hle) (trim_len (le_more hB.len hle))); have z1 := hf2.cell y1 hX'; have z2 := hf2.cell y2 hX')))
          clear hr1 hf1 hm1 hm2 hf2
          go_wp2_with (first | (go_at_call 20; refine (down_any hB2.rack).mono ?_; rintro e w3 ⟨rfl, rfl⟩) | (go_at_call 21; refine (rdown_any hB2.ref).mono ?_; rintro e w3 ⟨rfl, rfl⟩) | (go_at_call 22; refine (disks_any hB2.rack hB2.ref).mono ?_; rintro e w3 ⟨rfl, hb3⟩; have hB3 := hB2.later hb3))
          go_roundw
          case rel => exact ⟨k + 1, R, D, M, _, by omega, by go_num, rfl, rfl, hB3⟩
          case measure => simp [intOf]; omega
        · go_roundw
          case rel => exact ⟨k + 1, _, _, _, _, by omega, by go_num, rfl, rfl, hB3⟩
          case measure => simp [intOf]; omega
        · go_roundw
          case rel => exact ⟨k + 1, _, _, _, _, by omega, by go_num, rfl, rfl, hB3⟩
          case measure => simp [intOf]; omega
        · go_roundw
          case rel => exact ⟨k + 1, _, _, _, _, by omega, by go_num, rfl, rfl, hB3⟩
          case measure => simp [intOf]; omega
        · go_roundw
          case rel => exact ⟨k + 1, _, _, _, _, by omega, by go_num, rfl, rfl, hB3⟩
          case measure => simp [intOf]; omega
      · obtain rfl : k = len := by omega
        go_wp2_with (go_at_call 4; refine (sane_any _).mono ?_; rintro e w1 ⟨rfl, hb⟩)
        go_ret
        exact ⟨rfl, hB.below.trans (hb.mono hB.below.size)⟩
end Go.Proofs.Ytlelbkljhbkjdaa
