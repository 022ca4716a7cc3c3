import Derived.Test.YtmjdmpapickgkaaB
namespace Go.Proofs.Ytmjdmpapickgkaa
open Go.RowKit Go.Kk

theorem src_cells {w : World} {b off : Nat} {l : List Src} (h : Cells w b off (srcCells l)) (i : Nat) (hi : i < l.length) :
    w.cell? ⟨b, off + i * 3, none⟩ = some (.int .i64 l[i].op) ∧ w.cell? ⟨b, off + i * 3 + 1, none⟩ = some (.int .i64 l[i].val) ∧ w.cell? ⟨b, off + i * 3 + 2, none⟩ = some (.int .i64 l[i].hops) :=
  ⟨h (i * 3 + 0) _ (srcCells_get l i hi 0 (by omega)), by have := h (i * 3 + 1) _ (srcCells_get l i hi 1 (by omega)); rwa [← Nat.add_assoc] at this, by have := h (i * 3 + 2) _ (srcCells_get l i hi 2 (by omega)); rwa [← Nat.add_assoc] at this⟩
theorem op_cells {w : World} {b off : Nat} {p : List Opn} (h : Cells w b off (opCells p)) (i : Nat) (hi : i < p.length) :
    w.cell? ⟨b, off + i * 6, none⟩ = some (.int .i64 p[i].time) ∧ w.cell? ⟨b, off + i * 6 + 1, none⟩ = some (.int .i64 p[i].c0) ∧ w.cell? ⟨b, off + i * 6 + 2, none⟩ = some (.int .i64 p[i].c1) ∧
    w.cell? ⟨b, off + i * 6 + 3, none⟩ = some (.int .i64 p[i].unit) ∧ w.cell? ⟨b, off + i * 6 + 4, none⟩ = some (.int .i64 p[i].kind) ∧ w.cell? ⟨b, off + i * 6 + 5, none⟩ = some p[i].h := by
  have h0 := h (i * 6 + 0) _ (opCells_get p i hi 0 (by omega))
  have h1 := h (i * 6 + 1) _ (opCells_get p i hi 1 (by omega))
  have h2 := h (i * 6 + 2) _ (opCells_get p i hi 2 (by omega))
  have h3 := h (i * 6 + 3) _ (opCells_get p i hi 3 (by omega))
  have h4 := h (i * 6 + 4) _ (opCells_get p i hi 4 (by omega))
  have h5 := h (i * 6 + 5) _ (opCells_get p i hi 5 (by omega))
  rw [← Nat.add_assoc] at h0 h1 h2 h3 h4 h5
  exact ⟨h0, h1, h2, h3, h4, h5⟩

theorem any_take_succ {α : Type} (f : α → Bool) (l : List α) (i : Nat) (hi : i < l.length) (h : (l.take i).any f = false) (h2 : f l[i] = false) : (l.take (i + 1)).any f = false := by
  rw [List.take_succ_eq_append_getElem hi, List.any_append, h]; simp [h2]
theorem any_of_at {α : Type} (f : α → Bool) (l : List α) (i : Nat) (hi : i < l.length) (h : f l[i] = true) : l.any f = true := List.any_eq_true.2 ⟨_, List.getElem_mem hi, h⟩

set_option maxHeartbeats 1000000 in
theorem indexSrc_any (l : List Src) (v : Value) (n : Int) (hn : -1000000 ≤ n ∧ n ≤ 1000000) (b : Nat) (w : World) (hl : IsSrcs w v l) (hb : w.cell? ⟨b, 0, none⟩ = some (.int .i64 n)) (hlen : l.length ≤ 1000000) :
    Calls Try.prog 75 #[v, .func (.func 60) #[] #[.pointer (some ⟨b, 0, none⟩)]] w fun e w' => ∃ r, e = .returned (.int .i64 r) ∧ decide (0 ≤ r) = l.any (fun s => ! okSrc n s) ∧ Below w.heap.size w w' := by
  obtain ⟨base, cp, hval⟩ := hl.shape
  subst hval
  go_enter Try.func75, Try.ntmps75
  go_wp2
  go_loopw [8] (fun i wr => ∃ k : Nat, k ≤ l.length ∧ i = .int .i64 k ∧ (l.take k).any (fun s => ! okSrc n s) = false ∧ Below w.heap.size w wr) (fun i _ => l.length - (intOf i).toNat)
  case atStart => exact ⟨0, by omega, rfl, by simp, Below.refl _ _⟩
  case round =>
    obtain ⟨k, hk, rfl, hany, hbel⟩ := hrel
    by_cases hlt : k < l.length
    · obtain ⟨b1, off, cp1, hv, hc, hcl⟩ := Sl.at hl (by omega)
      injection hv with hv1 _ hv3
      subst hv1 hv3
      have hcl' := hcl.keeps (Keeps.of_below hbel)
      obtain ⟨c0, c1, c2⟩ := src_cells hcl' k hlt
      have hbc := Keeps.of_below hbel _ _ hb
      clear hl hcl hcl' hb
      have HS := fun wr h => notSource_any l[k] n hn b wr h
      have hat := any_of_at (fun s => ! okSrc n s) l k hlt
      have hnx := any_take_succ (fun s => ! okSrc n s) l k hlt hany
      unfold Src.v at HS
      generalize l[k] = s at *
      by_cases hok : okSrc n s = true
      · go_wp2_with (first | (go_at_call 60; refine (HS _ hbc).mono ?_; rintro e w1 ⟨rfl, h1⟩))
        go_roundw
        case rel => exact ⟨k + 1, by omega, by go_num, hnx (by simp [hok]), hbel.trans (h1.mono hbel.size)⟩
        case measure => simp [intOf]; omega
      · go_wp2_with (first | (go_at_call 60; refine (HS _ hbc).mono ?_; rintro e w1 ⟨rfl, h1⟩))
        go_ret
        refine ⟨_, rfl, ?_, hbel.trans (h1.mono hbel.size)⟩
        rw [hat (by simp [hok])]; simp
    · obtain rfl : k = l.length := by omega
      go_wp2
      go_ret
      refine ⟨_, rfl, ?_, hbel⟩
      rw [List.take_length] at hany
      rw [hany]; rfl

set_option maxHeartbeats 400000 in
theorem containsSrc_any (l : List Src) (v : Value) (n : Int) (hn : -1000000 ≤ n ∧ n ≤ 1000000) (b : Nat) (w : World) (hl : IsSrcs w v l) (hb : w.cell? ⟨b, 0, none⟩ = some (.int .i64 n)) (hlen : l.length ≤ 1000000) :
    Calls Try.prog 59 #[v, .func (.func 60) #[] #[.pointer (some ⟨b, 0, none⟩)]] w fun e w' => e = .returned (.bool (l.any (fun s => ! okSrc n s))) ∧ Below w.heap.size w w' := by
  have H := Lib.hid (indexSrc_any l v n hn b w hl hb hlen)
  clear hl hb
  go_enter Try.func59, Try.ntmps59
  go_wp2_with (first | (go_at_call 75; refine H.out.mono ?_; rintro e w1 ⟨r, rfl, hr, h1⟩))
  all_goals
    go_ret
    exact ⟨by rw [← hr]; simp, h1⟩

/-- is the operation valid among n operations -/
def okOp (n : Int) (o : Opn) : Bool :=
  ((! decide (need o.kind = 0)) && decide ((o.src.length : Int) = need o.kind)) && (bt (-100000) o.time 100000 && bt 0 o.unit 3) && (bt (-1000) o.c0 1000 && bt (-1000) o.c1 1000) && ! o.src.any (fun s => ! okSrc n s)

set_option maxHeartbeats 2000000 in
theorem operation_any (o : Opn) (n : Int) (hn : -1000000 ≤ n ∧ n ≤ 1000000) (w : World) (hs : IsSrcs w o.h o.src) (hlen : o.src.length ≤ 1000000) :
    Calls Try.prog 46 #[o.v, .int .i64 n] w fun e w' => e = .returned (.bool (okOp n o)) ∧ Below w.heap.size w w' := by
  obtain ⟨t, c0, c1, u, k, h, src⟩ := o
  unfold Opn.v
  simp only at *
  obtain ⟨base, cp, rfl⟩ := hs.shape
  have HC := fun w b hs hb => containsSrc_any src (.slice base src.length cp) n hn b w hs hb hlen
  have Hs := Lib.hid hs
  have HN := fun w => needs_any k w
  have ho : okOp n ⟨t, c0, c1, u, k, .slice base src.length cp, src⟩ = (((! decide (need k = 0)) && decide ((src.length : Int) = need k)) && (bt (-100000) t 100000 && bt 0 u 3) && (bt (-1000) c0 1000 && bt (-1000) c1 1000) && ! src.any (fun s => ! okSrc n s)) := rfl
  rw [ho]
  clear hs ho
  generalize need k = nd at *
  generalize doesV k = dv at *
  by_cases h1 : nd = 0
  · go_enter Try.func46, Try.ntmps46
    go_wp2_with (first | (go_at_call 56; refine (HN _).mono ?_; rintro e w1 ⟨rfl, rfl⟩))
    go_ret
    exact ⟨by simp [h1], below_alloc2 _ _ _⟩
  have b1 : (nd == 0) = false := by simp [h1]
  by_cases h2 : (src.length : Int) = nd
  rotate_left
  · have b2 : ((src.length : Int) != nd) = true := by simp [h2]
    go_enter Try.func46, Try.ntmps46
    go_wp2_with (first | (go_at_call 56; refine (HN _).mono ?_; rintro e w1 ⟨rfl, rfl⟩))
    go_ret
    exact ⟨by simp [h2], below_alloc2 _ _ _⟩
  have b2 : ((src.length : Int) != nd) = false := by simp [h2]
  have HB := fun o o' => Hs.out.keeps (Keeps.of_below (below_alloc2 w o o'))
  by_cases h3 : bt (-100000) t 100000 = true
  rotate_left
  · go_enter Try.func46, Try.ntmps46
    go_wp2_with (first | (go_at_call 56; refine (HN _).mono ?_; rintro e w1 ⟨rfl, rfl⟩) | (go_at_call 48; refine (between_any _ _ _ _).mono ?_; rintro e w1 ⟨rfl, rfl⟩))
    go_ret
    exact ⟨by simp [h3], below_alloc2 _ _ _⟩
  by_cases h4 : bt 0 u 3 = true
  rotate_left
  · go_enter Try.func46, Try.ntmps46
    go_wp2_with (first | (go_at_call 56; refine (HN _).mono ?_; rintro e w1 ⟨rfl, rfl⟩) | (go_at_call 48; refine (between_any _ _ _ _).mono ?_; rintro e w1 ⟨rfl, rfl⟩))
    go_ret
    exact ⟨by simp [h4], below_alloc2 _ _ _⟩
  by_cases h5 : bt (-1000) c0 1000 = true
  rotate_left
  · go_enter Try.func46, Try.ntmps46
    go_wp2_with (first | (go_at_call 56; refine (HN _).mono ?_; rintro e w1 ⟨rfl, rfl⟩) | (go_at_call 48; refine (between_any _ _ _ _).mono ?_; rintro e w1 ⟨rfl, rfl⟩))
    go_ret
    exact ⟨by simp [h5], below_alloc2 _ _ _⟩
  by_cases h6 : bt (-1000) c1 1000 = true
  rotate_left
  · go_enter Try.func46, Try.ntmps46
    go_wp2_with (first | (go_at_call 56; refine (HN _).mono ?_; rintro e w1 ⟨rfl, rfl⟩) | (go_at_call 48; refine (between_any _ _ _ _).mono ?_; rintro e w1 ⟨rfl, rfl⟩))
    go_ret
    exact ⟨by simp [h6], below_alloc2 _ _ _⟩
  go_enter Try.func46, Try.ntmps46
  go_wp2_with (first | (go_at_call 56; refine (HN _).mono ?_; rintro e w1 ⟨rfl, rfl⟩) | (go_at_call 48; refine (between_any _ _ _ _).mono ?_; rintro e w1 ⟨rfl, rfl⟩) | (go_at_call 59; refine (HC _ _ (HB _ _) (newA _ _ _ _ _ _ (by simp) rfl)).mono ?_; rintro e w1 ⟨rfl, hb⟩))
  go_ret
  exact ⟨by simp [h1, h2, h3, h4, h5, h6], (below_alloc2 _ _ _).trans (hb.mono (by simp; omega))⟩

/-- the closure of Valid: not a valid operation -/
theorem notOp_any (o : Opn) (b : Nat) (w : World) (base : Option Addr) (m cp : Nat) (hm : m ≤ 1000000) (hb : w.cell? ⟨b, 0, none⟩ = some (.slice base m cp)) (hs : IsSrcs w o.h o.src) (hlen : o.src.length ≤ 1000000) :
    Calls Try.prog 45 #[o.v, .pointer (some ⟨b, 0, none⟩)] w fun e w' => e = .returned (.bool (! okOp m o)) ∧ Below w.heap.size w w' := by
  have HS := fun w hs => operation_any o m (by omega) w hs hlen
  have hs' := fun o => hs.keeps (Keeps.of_below (below_alloc w o))
  unfold Opn.v at *
  have hb' := fun o => Keeps.of_below (below_alloc w o) _ _ hb
  clear hs
  go_enter Try.func45, Try.ntmps45
  go_wp2_with (first | (go_at_call 46; refine (HS _ (hs' _)).mono ?_; rintro e w1 ⟨rfl, h1⟩))
  go_ret
  exact ⟨rfl, (below_alloc _ _).trans (h1.mono (by simp))⟩
end Go.Proofs.Ytmjdmpapickgkaa
