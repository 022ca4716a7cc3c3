import Derived.Test.YtmjdmpapickgkaaZ2
import Derived.Sort.LotA
import Derived.Deep.LoopGhost
import Derived.Sort.WalkA
namespace Go.Proofs.Ytmjdmpapickgkaa
open Go.RowKit Go.Kk

/-- cmp.Compare -/
def cmpI (x y : Int) : Int := if x < y then -1 else if y < x then 1 else 0
set_option maxHeartbeats 400000 in
theorem isNaN_any (x : Int) (w : World) : Calls Try.prog 77 #[.int .i64 x] w fun e w' => e = .returned (.bool false) ∧ w' = w := by
  go_enter Try.func77, Try.ntmps77
  go_wp2
  go_ret
  simp
set_option maxHeartbeats 400000 in
theorem compare_any (x y : Int) (w : World) : Calls Try.prog 66 #[.int .i64 x, .int .i64 y] w fun e w' => e = .returned (.int .i64 (cmpI x y)) ∧ w' = w := by
  have hv : cmpI x y = if x < y then -1 else if y < x then 1 else 0 := rfl
  by_cases h1 : x < y
  · rw [if_pos h1] at hv
    rw [hv]
    clear hv
    go_enter Try.func66, Try.ntmps66
    go_wp2_with (first | (go_at_call 77; refine (isNaN_any _ _).mono ?_; rintro e w1 ⟨rfl, rfl⟩))
    go_ret
    exact ⟨rfl, rfl⟩
  · rw [if_neg h1] at hv
    by_cases h2 : y < x
    · rw [if_pos h2] at hv
      rw [hv]
      clear hv
      go_enter Try.func66, Try.ntmps66
      go_wp2_with (first | (go_at_call 77; refine (isNaN_any _ _).mono ?_; rintro e w1 ⟨rfl, rfl⟩))
      go_ret
      exact ⟨rfl, rfl⟩
    · rw [if_neg h2] at hv
      rw [hv]
      clear hv
      go_enter Try.func66, Try.ntmps66
      go_wp2_with (first | (go_at_call 77; refine (isNaN_any _ _).mono ?_; rintro e w1 ⟨rfl, rfl⟩))
      go_ret
      exact ⟨rfl, rfl⟩

/-- the time of operation i -/
def timeOf (p : List Opn) (i : Nat) : Int := if h : i < p.length then (p[i]'h).time else 0

set_option maxHeartbeats 1000000 in
theorem closure65 (p : List Opn) (base : Option Addr) (cp C : Nat) (w : World) (hl : IsProg w (.slice base p.length cp) p) (hC : w.cell? ⟨C, 0, none⟩ = some (.slice base p.length cp)) (hlen : Narrow p)
    (i j : Nat) (hi : i < p.length) (hj : j < p.length) :
    Calls Try.prog 65 #[.int .i64 i, .int .i64 j, .pointer (some ⟨C, 0, none⟩)] w fun e w' => e = .returned (.int .i64 (cmpI (timeOf p i) (timeOf p j))) ∧ ∃ q, w' = w.drewN q := by
  obtain ⟨b1, off, cp1, hv, hc, hcl⟩ := Sl.at hl.1 (by omega)
  injection hv with hv1 _ hv3
  subst hv1 hv3
  obtain ⟨c0, _⟩ := op_cells hcl i hi
  obtain ⟨d0, _⟩ := op_cells hcl j hj
  have hti : timeOf p i = p[i].time := by unfold timeOf; rw [dif_pos hi]
  have htj : timeOf p j = p[j].time := by unfold timeOf; rw [dif_pos hj]
  rw [hti, htj]
  have hlp := hlen.1
  have z1 : (i : Int) < (p.length : Int) := by omega
  have z2 : (j : Int) < (p.length : Int) := by omega
  clear hl hcl hti htj
  generalize p[i].time = x at *
  generalize p[j].time = y at *
  go_enter Try.func65, Try.ntmps65
  go_wp2
  go_quiet (first | (go_at_call 66; refine Calls.quiet_of_same (compare_any _ _ _)))
  go_wp2
  go_ret
  exact ⟨rfl, _, rfl⟩
end Go.Proofs.Ytmjdmpapickgkaa

namespace Go.Proofs.Ytmjdmpapickgkaa
open Go.RowKit Go.Kk Go.Sort

/-- block G holds the row d -/
def Arr (w : World) (G : Nat) (d : Array Nat) : Prop := w.heap[G]? = some (.cells (d.map fun (x : Nat) => Value.int .i64 (x : Int)) 3 (0, 0))
/-- .. and all else is as in w0 -/
structure SX (w0 w : World) (G : Nat) (d : Array Nat) : Prop where
  arr : Arr w G d
  fr : Fr (· = G) w0 w

variable {w0 w : World} {G : Nat} {d : Array Nat}
theorem SX.c (h : SX w0 w G d) (i : Nat) (hi : i < d.size) : w.cell? ⟨G, i, none⟩ = some (.int .i64 (d[i]! : Nat)) := by
  refine cell_of_heap h.arr ?_
  simp [hi]
theorem SX.f (h : SX w0 w G d) (i : Nat) : w.frozen? ⟨G, i, none⟩ = false := frozen_of_heap h.arr
theorem SX.drewN (h : SX w0 w G d) (n : Nat) : SX w0 (w.drewN n) G d := ⟨h.arr, ⟨h.fr.os, h.fr.tape, h.fr.output, h.fr.size, h.fr.block⟩⟩
theorem SX.drew (h : SX w0 w G d) : SX w0 w.drew G d := h.drewN 1
theorem SX.set (h : SX w0 w G d) (i x : Nat) : SX w0 (w.setCell ⟨G, i, none⟩ (.int .i64 x)) G (d.setIfInBounds i x) :=
  ⟨by
    have := hset_same (i := i) (.int .i64 x) h.arr
    unfold Arr
    rw [this]
    congr 2
    apply Array.ext_getElem?
    intro j
    simp only [Array.getElem?_setIfInBounds, Array.getElem?_map, Array.size_map]
    by_cases hij : i = j
    · subst hij
      by_cases hi : i < d.size <;> simp [hi]
    · simp [hij]
    , h.fr.setCell rfl _⟩
theorem SX.swap (h : SX w0 w G d) (i j : Nat) : SX w0 ((w.setCell ⟨G, i, none⟩ (.int .i64 (d[j]! : Nat))).setCell ⟨G, j, none⟩ (.int .i64 (d[i]! : Nat))) G (swp d i j) := (h.set i d[j]!).set j d[i]!
theorem SX.c2 (h : SX w0 w G d) (i j : Nat) (_ : i < d.size) (hj : j < d.size) (x : Nat) : ∃ u, (w.setCell ⟨G, i, none⟩ (.int .i64 x)).cell? ⟨G, j, none⟩ = some u := ⟨_, (h.set i x).c j (by simpa using hj)⟩

/-- the row as a slice -/
abbrev rowV (G n : Nat) : Value := .slice (some ⟨G, 0, none⟩) n n

set_option maxHeartbeats 1000000 in
theorem swapRange_any (fv : Value) (a b k : Nat) (h : SX w0 w G d) (hab : a + k ≤ b) (hb : b + k ≤ d.size) (hs : d.size ≤ 1000000) :
    Calls Try.prog 81 #[rowV G d.size, .int .i64 a, .int .i64 b, .int .i64 k, fv] w fun e w' => e = .returned (.tuple #[]) ∧ ∃ d', SX w0 w' G d' ∧ d'.size = d.size ∧
      (∀ i, i < k → d'[a + i]! = d[b + i]! ∧ d'[b + i]! = d[a + i]!) ∧ (∀ x, (x < a ∨ a + k ≤ x) → (x < b ∨ b + k ≤ x) → d'[x]! = d[x]!) ∧ ∀ lo hi, lo ≤ a → b + k ≤ hi → hi ≤ d.size → PermIn lo hi d d' := by
  have H := Lib.hid h
  clear h
  go_enter Try.func81, Try.ntmps81
  go_wp2
  go_loopw [10] (fun i wr => ∃ (j : Nat) (dj : Array Nat), j ≤ k ∧ i = .int .i64 j ∧ dj.size = d.size ∧ Hid (SX w0 wr G dj) ∧ (∀ i, i < j → dj[a + i]! = d[b + i]! ∧ dj[b + i]! = d[a + i]!) ∧ (∀ x, (x < a ∨ a + j ≤ x) → (x < b ∨ b + j ≤ x) → dj[x]! = d[x]!) ∧ ∀ lo hi, lo ≤ a → b + k ≤ hi → hi ≤ d.size → PermIn lo hi d dj) (fun i _ => k - (intOf i).toNat)
  case atStart => exact ⟨0, d, by omega, rfl, rfl, H, fun i hi => by omega, fun _ _ _ => rfl, fun lo hi _ _ _ => permIn_refl _ _ _⟩
  case round =>
    obtain ⟨j, dj, hj, rfl, hsz, HS, hin, hout, hperm⟩ := hrel
    by_cases hlt : j < k
    · have HH := Lib.hid (And.intro hin (And.intro hout hperm))
      clear hin hout hperm
      have S := HS.out
      have c1 := S.c (a + j) (by omega)
      have c2 := S.c (b + j) (by omega)
      have f1 := S.f (a + j)
      have f2 := S.f (b + j)
      have S2 := Lib.hid (S.swap (a + j) (b + j))
      have hcc := S.c2 (a + j) (b + j) (by omega) (by omega) (dj[b + j]!)
      clear S HS H
      generalize hx : dj[a + j]! = x at *
      generalize hy : dj[b + j]! = y at *
      obtain ⟨u, c3⟩ := hcc
      have z1 : (a : Int) + (j : Int) < (d.size : Int) := by omega
      have z2 : (b : Int) + (j : Int) < (d.size : Int) := by omega
      have w1 : IntKind.i64.wrap ((a : Int) + (j : Int)) = (a : Int) + (j : Int) := IntWalk.i64_in _ (by omega)
      have w2 : IntKind.i64.wrap ((b : Int) + (j : Int)) = (b : Int) + (j : Int) := IntWalk.i64_in _ (by omega)
      have t1 : ((a : Int) + (j : Int)).toNat = a + j := by omega
      have t2 : ((b : Int) + (j : Int)).toNat = b + j := by omega
      go_wp2
      go_region
      go_wp2
      go_roundw
      case rel =>
        obtain ⟨hin, hout, hperm⟩ := HH.out
        have hg := swp_get dj (i := a + j) (j := b + j) (by omega) (by omega)
        refine ⟨j + 1, swp dj (a + j) (b + j), by omega, by go_num, by rw [size_swp]; exact hsz, Lib.hid S2.out.drew, ?_, ?_, ?_⟩
        · intro i hi
          by_cases hij : i = j
          · subst hij
            have e1 := hout (a + i) (.inr (by omega)) (.inl (by omega))
            have e2 := hout (b + i) (.inr (by omega)) (.inr (by omega))
            rw [hg, hg, if_neg (by omega), if_pos rfl, if_pos rfl]
            exact ⟨e2, e1⟩
          · rw [hg, hg, if_neg (by omega), if_neg (by omega), if_neg (by omega), if_neg (by omega)]
            exact hin i (by omega)
        · intro x h1 h2
          rw [hg]
          rw [if_neg (by omega), if_neg (by omega)]
          exact hout x (by omega) (by omega)
        · intro lo hi h1 h2 h3
          exact permIn_trans _ _ _ _ _ (hperm lo hi h1 h2 h3) (swp_permIn _ _ _ _ _ (by omega) (by omega) (by omega) (by omega) (by omega))
      case measure => simp [intOf]; omega
    · obtain rfl : j = k := by omega
      go_wp2
      go_end0
      exact ⟨rfl, dj, HS.out, hsz, hin, hout, hperm⟩
end Go.Proofs.Ytmjdmpapickgkaa

namespace Go.Proofs.Ytmjdmpapickgkaa
open Go.RowKit Go.Kk Go.Sort

/-- what a rotation puts at x -/
def rotT (d : Array Nat) (a m b x : Nat) : Nat := if x < a + (b - m) then d[m + (x - a)]! else d[a + (x - (a + (b - m)))]!
structure RotInv (d : Array Nat) (a m b i j : Nat) (dj : Array Nat) : Prop where
  size : dj.size = d.size
  ipos : 0 < i
  jpos : 0 < j
  il : i ≤ m - a
  jl : j ≤ b - m
  done : ∀ x, a ≤ x → x < b → (x < m - i ∨ m + j ≤ x) → dj[x]! = rotT d a m b x
  right : ∀ k, k < j → dj[m + k]! = rotT d a m b (m - i + k)
  left : ∀ k, k < i → dj[m - i + k]! = rotT d a m b (m - i + j + k)
  out : ∀ x, (x < a ∨ b ≤ x) → dj[x]! = d[x]!
  perm : PermIn a b d dj

theorem RotInv.start (d : Array Nat) (a m b : Nat) (h1 : a < m) (h2 : m < b) : RotInv d a m b (m - a) (b - m) d where
  size := rfl
  ipos := by omega
  jpos := by omega
  il := by omega
  jl := by omega
  done := fun x _ _ h => by omega
  right := fun k hk => by unfold rotT; rw [if_pos (by omega)]; congr 1; omega
  left := fun k hk => by unfold rotT; rw [if_neg (by omega)]; congr 1; omega
  out := fun _ _ => rfl
  perm := permIn_refl _ _ _

/-- what swapRange leaves -/
structure Swapped (d : Array Nat) (a b k : Nat) (d' : Array Nat) : Prop where
  size : d'.size = d.size
  ex : ∀ i, i < k → d'[a + i]! = d[b + i]! ∧ d'[b + i]! = d[a + i]!
  out : ∀ x, (x < a ∨ a + k ≤ x) → (x < b ∨ b + k ≤ x) → d'[x]! = d[x]!
  perm : ∀ lo hi, lo ≤ a → b + k ≤ hi → hi ≤ d.size → PermIn lo hi d d'

theorem Swapped.l {d d' : Array Nat} {a b k : Nat} (h : Swapped d a b k d') (x : Nat) (h1 : a ≤ x) (h2 : x < a + k) : d'[x]! = d[b + (x - a)]! := by
  have := (h.ex (x - a) (by omega)).1
  rwa [show a + (x - a) = x by omega] at this
theorem Swapped.r {d d' : Array Nat} {a b k : Nat} (h : Swapped d a b k d') (x : Nat) (h1 : b ≤ x) (h2 : x < b + k) : d'[x]! = d[a + (x - b)]! := by
  have := (h.ex (x - b) (by omega)).2
  rwa [show b + (x - b) = x by omega] at this

theorem RotInv.R {d dj : Array Nat} {a m b i j : Nat} (h : RotInv d a m b i j dj) (x : Nat) (h1 : m ≤ x) (h2 : x < m + j) : dj[x]! = rotT d a m b (x - i) := by
  have := h.right (x - m) (by omega)
  rw [show m + (x - m) = x by omega] at this
  rw [this]; congr 1
  have := h.il
  omega
theorem RotInv.L {d dj : Array Nat} {a m b i j : Nat} (h : RotInv d a m b i j dj) (x : Nat) (h1 : m - i ≤ x) (h2 : x < m) : dj[x]! = rotT d a m b (x + j) := by
  have := h.left (x - (m - i)) (by have := h.il; omega)
  rw [show m - i + (x - (m - i)) = x by omega] at this
  rw [this]; congr 1
  omega

theorem RotInv.big {d dj d2 : Array Nat} {a m b i j : Nat} (h : RotInv d a m b i j dj) (hij : j < i) (ham : a < m) (hmb : m < b) (hb : b ≤ d.size) (s : Swapped dj (m - i) m j d2) : RotInv d a m b (i - j) j d2 := by
  have e1 := h.il
  have e2 := h.jl
  have e3 := h.jpos
  have e4 := h.size
  refine ⟨s.size.trans h.size, by omega, e3, by omega, e2, ?_, ?_, ?_, ?_, permIn_trans _ _ _ _ _ h.perm (s.perm a b (by omega) (by omega) (by omega))⟩
  · intro x h1 h2 h3
    by_cases hx : x < m - i ∨ m + j ≤ x
    · rw [s.out x (by omega) (by omega)]; exact h.done x h1 h2 hx
    · rw [s.l x (by omega) (by omega), h.R _ (by omega) (by omega)]; congr 1; omega
  · intro k hk
    rw [s.r (m + k) (by omega) (by omega), h.L _ (by omega) (by omega)]; congr 1; omega
  · intro k hk
    rw [s.out (m - (i - j) + k) (by omega) (by omega), h.L _ (by omega) (by omega)]; congr 1; omega
  · intro x hx
    rw [s.out x (by omega) (by omega)]; exact h.out x hx

theorem RotInv.small {d dj d2 : Array Nat} {a m b i j : Nat} (h : RotInv d a m b i j dj) (hij : i < j) (ham : a < m) (hmb : m < b) (hb : b ≤ d.size) (s : Swapped dj (m - i) (m + j - i) i d2) : RotInv d a m b i (j - i) d2 := by
  have e1 := h.il
  have e2 := h.jl
  have e3 := h.ipos
  have e4 := h.size
  refine ⟨s.size.trans h.size, e3, by omega, e1, by omega, ?_, ?_, ?_, ?_, permIn_trans _ _ _ _ _ h.perm (s.perm a b (by omega) (by omega) (by omega))⟩
  · intro x h1 h2 h3
    by_cases hx : x < m - i ∨ m + j ≤ x
    · rw [s.out x (by omega) (by omega)]; exact h.done x h1 h2 hx
    · rw [s.r x (by omega) (by omega), h.L _ (by omega) (by omega)]; congr 1; omega
  · intro k hk
    rw [s.out (m + k) (by omega) (by omega), h.R _ (by omega) (by omega)]; congr 1; omega
  · intro k hk
    rw [s.l (m - i + k) (by omega) (by omega), h.R _ (by omega) (by omega)]; congr 1; omega
  · intro x hx
    rw [s.out x (by omega) (by omega)]; exact h.out x hx

/-- what rotate leaves -/
structure Rotated (d : Array Nat) (a m b : Nat) (d' : Array Nat) : Prop where
  size : d'.size = d.size
  at' : ∀ x, a ≤ x → x < b → d'[x]! = rotT d a m b x
  out : ∀ x, (x < a ∨ b ≤ x) → d'[x]! = d[x]!
  perm : PermIn a b d d'
theorem RotInv.last {d dj d2 : Array Nat} {a m b i : Nat} (h : RotInv d a m b i i dj) (ham : a < m) (hmb : m < b) (hb : b ≤ d.size) (s : Swapped dj (m - i) m i d2) : Rotated d a m b d2 := by
  have e1 := h.il
  have e2 := h.jl
  have e3 := h.ipos
  have e4 := h.size
  refine ⟨s.size.trans h.size, ?_, ?_, permIn_trans _ _ _ _ _ h.perm (s.perm a b (by omega) (by omega) (by omega))⟩
  · intro x h1 h2
    by_cases hx : x < m - i ∨ m + i ≤ x
    · rw [s.out x (by omega) (by omega)]; exact h.done x h1 h2 hx
    · by_cases hm : x < m
      · rw [s.l x (by omega) (by omega), h.R _ (by omega) (by omega)]; congr 1; omega
      · rw [s.r x (by omega) (by omega), h.L _ (by omega) (by omega)]; congr 1; omega
  · intro x hx
    rw [s.out x (by omega) (by omega)]; exact h.out x hx

variable {w0 w : World} {G : Nat} {d : Array Nat}
theorem swapRange_s (fv : Value) (N a b k : Nat) (h : SX w0 w G d) (hN : N = d.size) (hab : a + k ≤ b) (hb : b + k ≤ d.size) (hs : d.size ≤ 1000000) :
    Calls Try.prog 81 #[rowV G N, .int .i64 a, .int .i64 b, .int .i64 k, fv] w fun e w' => e = .returned (.tuple #[]) ∧ ∃ d', SX w0 w' G d' ∧ Swapped d a b k d' := by
  subst hN
  exact (swapRange_any fv a b k h hab hb hs).mono fun _ _ ⟨he, d', h1, h2, h3, h4, h5⟩ => ⟨he, d', h1, h2, h3, h4, h5⟩

set_option maxHeartbeats 1000000 in
theorem rotate_any (fv : Value) (a m b : Nat) (h : SX w0 w G d) (ham : a < m) (hmb : m < b) (hb : b ≤ d.size) (hs : d.size ≤ 1000000) :
    Calls Try.prog 80 #[rowV G d.size, .int .i64 a, .int .i64 m, .int .i64 b, fv] w fun e w' => e = .returned (.tuple #[]) ∧ ∃ d', SX w0 w' G d' ∧ Rotated d a m b d' := by
  have H := Lib.hid h
  clear h
  have z1 : IntKind.i64.wrap ((m : Int) - (a : Int)) = ((m - a : Nat) : Int) := by rw [IntWalk.i64_in _ (by omega)]; omega
  have z2 : IntKind.i64.wrap ((b : Int) - (m : Int)) = ((b - m : Nat) : Int) := by rw [IntWalk.i64_in _ (by omega)]; omega
  go_enter Try.func80, Try.ntmps80
  go_wp2
  go_loopw [10, 11] (fun i j wr => ∃ (ni nj : Nat) (dj : Array Nat), i = .int .i64 ni ∧ j = .int .i64 nj ∧ Hid (SX w0 wr G dj) ∧ Hid (RotInv d a m b ni nj dj)) (fun i j _ => (intOf i).toNat + (intOf j).toNat)
  case atStart => exact ⟨m - a, b - m, d, by go_num, by go_num, H, Lib.hid (RotInv.start d a m b ham hmb)⟩
  case round =>
    clear H
    obtain ⟨i, j, dj, rfl, rfl, HS, HR⟩ := hrel
    obtain ⟨hsz, hi0, hj0, hil, hjl⟩ : dj.size = d.size ∧ 0 < i ∧ 0 < j ∧ i ≤ m - a ∧ j ≤ b - m := ⟨HR.out.size, HR.out.ipos, HR.out.jpos, HR.out.il, HR.out.jl⟩
    have y1 : IntKind.i64.wrap ((m : Int) - (i : Int)) = ((m - i : Nat) : Int) := by rw [IntWalk.i64_in _ (by omega)]; omega
    by_cases h1 : i = j
    · subst h1
      go_wp2_with (first | (go_at_call 81; (refine (swapRange_s fv d.size (m - i) m i HS.out (by omega) (by omega) (by omega) (by omega)).mono ?_; rintro e w1 ⟨rfl, d2, hS2, hW⟩)))
      go_end0
      exact ⟨rfl, d2, hS2, HR.out.last ham hmb hb hW⟩
    · by_cases h2 : j < i
      · have y2 : IntKind.i64.wrap ((i : Int) - (j : Int)) = ((i - j : Nat) : Int) := by rw [IntWalk.i64_in _ (by omega)]; omega
        go_wp2_with (first | (go_at_call 81; (refine (swapRange_s fv d.size (m - i) m j HS.out (by omega) (by omega) (by omega) (by omega)).mono ?_; rintro e w1 ⟨rfl, d2, hS2, hW⟩)))
        go_roundw
        case rel => exact ⟨i - j, j, d2, rfl, rfl, Lib.hid hS2, Lib.hid (HR.out.big h2 ham hmb hb hW)⟩
        case measure => simp [intOf]; omega
      · have y2 : IntKind.i64.wrap ((j : Int) - (i : Int)) = ((j - i : Nat) : Int) := by rw [IntWalk.i64_in _ (by omega)]; omega
        have y3 : IntKind.i64.wrap ((m : Int) + (j : Int)) = (m : Int) + (j : Int) := by rw [IntWalk.i64_in _ (by omega)]
        have y4 : IntKind.i64.wrap ((m : Int) + (j : Int) - (i : Int)) = ((m + j - i : Nat) : Int) := by rw [IntWalk.i64_in _ (by omega)]; omega
        go_wp2_with (first | (go_at_call 81; (refine (swapRange_s fv d.size (m - i) (m + j - i) i HS.out (by omega) (by omega) (by omega) (by omega)).mono ?_; rintro e w1 ⟨rfl, d2, hS2, hW⟩)))
        go_roundw
        case rel => exact ⟨i, j - i, d2, rfl, rfl, Lib.hid hS2, Lib.hid (HR.out.small (by omega) ham hmb hb hW)⟩
        case measure => simp [intOf]; omega
end Go.Proofs.Ytmjdmpapickgkaa

namespace Go.Proofs.Ytmjdmpapickgkaa
open Go.RowKit Go.Kk Go.Sort

/-- cmp's contract: in every world of the sort's -/
def CmpOk (w0 : World) (G C n : Nat) (T : Nat → Int) : Prop :=
  ∀ (w : World) (x y : Nat), Fr (· = G) w0 w → x < n → y < n → Calls Try.prog 65 #[.int .i64 x, .int .i64 y, .pointer (some ⟨C, 0, none⟩)] w fun e w' => e = .returned (.int .i64 (cmpI (T x) (T y))) ∧ ∃ q, w' = w.drewN q
abbrev cmpV (C : Nat) : Value := .func (.func 65) #[] #[.pointer (some ⟨C, 0, none⟩)]
/-- less, by T -/
def ltT (T : Nat → Int) (x y : Nat) : Bool := decide (T x < T y)
theorem swoT (T : Nat → Int) : SWO (ltT T) where
  irrefl x := by simp [ltT]
  trans x y z h1 h2 := by simp [ltT] at *; omega
  ntrans x y z h1 h2 := by simp [ltT] at *; omega
def AllLt (d : Array Nat) (n : Nat) : Prop := ∀ i, i < d.size → d[i]! < n
theorem AllLt.swp {d : Array Nat} {n : Nat} (h : AllLt d n) {i j : Nat} (hi : i < d.size) (hj : j < d.size) : AllLt (swp d i j) n := by
  intro k hk
  rw [size_swp] at hk
  rw [swp_get d hi hj]
  split
  · exact h i hi
  · split
    · exact h j hj
    · exact h k hk
theorem AllLt.perm {d d' : Array Nat} {n a b : Nat} (h : AllLt d n) (hp : PermIn a b d d') (hb : b ≤ d.size) : AllLt d' n := by
  intro k hk
  rw [hp.1] at hk
  by_cases hab : k < a ∨ b ≤ k
  · rw [hp.2.1 k hab]; exact h k hk
  · exact permIn_all d d' a b (· < n) hb hp (fun i _ hi => h i (by omega)) k (by omega) (by omega)
theorem cmpI_neg (x y : Int) : (cmpI x y < 0) = (x < y) := by
  unfold cmpI
  apply propext
  split
  · simp_all
  · split <;> simp_all

variable {w0 w : World} {G C n : Nat} {d : Array Nat} {T : Nat → Int}
set_option maxHeartbeats 2000000 in
theorem insertion_any (a b : Nat) (h : SX w0 w G d) (hc : CmpOk w0 G C n T) (hall : AllLt d n) (hab : a ≤ b) (hb : b ≤ d.size) (hs : d.size ≤ 1000000) :
    Calls Try.prog 78 #[rowV G d.size, .int .i64 a, .int .i64 b, cmpV C] w fun e w' => e = .returned (.tuple #[]) ∧ SX w0 w' G (insertionSort (ltT T) d a b) := by
  have H := Lib.hid h
  clear h
  have HC := Lib.hid hc
  clear hc
  go_enter Try.func78, Try.ntmps78
  go_wp2
  go_loopw [8] (fun i wr => ∃ (k : Nat) (dk : Array Nat), i = .int .i64 k ∧ a < k ∧ k ≤ b + 1 ∧ dk.size = d.size ∧ Hid (SX w0 wr G dk) ∧ Hid (AllLt dk n) ∧ Hid (insOuter (ltT T) a b k dk = insOuter (ltT T) a b (a + 1) d)) (fun i _ => b + 1 - (intOf i).toNat)
  case atStart => exact ⟨a + 1, d, by go_num, by omega, by omega, rfl, H, Lib.hid hall, Lib.hid rfl⟩
  case round =>
    clear H
    obtain ⟨k, dk, rfl, hak, hkb, hsz, HS, HA, HO⟩ := hrel
    by_cases hlt : k < b
    · have hki : (k : Int) < (b : Int) := by omega
      go_wp2
      obtain ⟨W, hW⟩ : ∃ x, x = wr := ⟨wr, rfl⟩
      subst hW
      go_loopw [9] (fun i wr => ∃ (j : Nat) (dj : Array Nat), i = .int .i64 j ∧ a ≤ j ∧ j ≤ k ∧ dj.size = d.size ∧ Hid (SX w0 wr G dj) ∧ Hid (AllLt dj n) ∧ Hid (insInner (ltT T) a j dj = insInner (ltT T) a k dk)) (fun i _ => (intOf i).toNat)
      case atStart => exact ⟨k, dk, rfl, by omega, by omega, hsz, HS, HA, Lib.hid rfl⟩
      case round =>
        clear HS HA
        obtain ⟨j, dj, rfl, haj, hjk, hsj, HS, HA, HI⟩ := hrel
        have out : (j ≤ a ∨ ltT T dj[j]! dj[j - 1]! = false) → Hid (insOuter (ltT T) a b (k + 1) dj = insOuter (ltT T) a b (a + 1) d) := fun hs => by
          show _ = _
          rw [← HO.out, insOuter_go _ _ _ _ _ hlt, ← HI.out, insInner_stop _ _ _ _ hs]
        have OUT := Lib.hid out
        clear out
        by_cases hja : a < j
        · have y1 : IntKind.i64.wrap ((j : Int) - 1) = ((j - 1 : Nat) : Int) := by rw [IntWalk.i64_in _ (by omega)]; omega
          have hd1 : decide ((a : Int) < (j : Int)) = true := decide_eq_true (by omega)
          have hd2 : (a : Int) < (j : Int) := by omega
          have x1 : (j : Int) < (d.size : Int) := by omega
          have x2 : ((j - 1 : Nat) : Int) < (d.size : Int) := by omega
          have c1 := HS.out.c j (by omega)
          have c2 := HS.out.c (j - 1) (by omega)
          have l1 := HA.out j (by omega)
          have l2 := HA.out (j - 1) (by omega)
          have hcc := fun q => HC.out (wr.drewN q) dj[j]! dj[j - 1]! (HS.out.drewN q).fr l1 l2
          have HCC := Lib.hid hcc
          clear hcc
          by_cases hl : T dj[j]! < T dj[j - 1]!
          · have hv : decide (cmpI (T dj[j]!) (T dj[j - 1]!) < 0) = true := decide_eq_true (by rw [cmpI_neg]; exact hl)
            go_wp2
            go_quiet (first | (go_at_call 65; refine Calls.quiet_of (HCC.out _)))
            have SN := HS.out.drewN nq
            have S2 := Lib.hid (SN.swap j (j - 1))
            have c1 := SN.c j (by omega)
            have c2 := SN.c (j - 1) (by omega)
            have f1 := SN.f j
            have f2 := SN.f (j - 1)
            obtain ⟨u, c3⟩ := SN.c2 j (j - 1) (by omega) (by omega) (dj[j - 1]!)
            have A2 := Lib.hid (HA.out.swp (i := j) (j := j - 1) (by omega) (by omega))
            have I2 := Lib.hid ((insInner_go (ltT T) a j dj hja (by simp [ltT, hl])).symm.trans HI.out)
            clear SN HCC HS HA HI OUT hl hv l1 l2
            generalize wr.drewN nq = w2 at *
            have hg1 : dj[j]! = dj[j]! := rfl
            go_wp2
            go_region
            go_wp2
            go_roundw
            case rel => exact ⟨j - 1, swp dj j (j - 1), rfl, by omega, by omega, by rw [size_swp]; exact hsj, Lib.hid S2.out.drew, A2, I2⟩
            case measure => simp [intOf]; omega
          · have hv : decide (cmpI (T dj[j]!) (T dj[j - 1]!) < 0) = false := decide_eq_false (by rw [cmpI_neg]; exact hl)
            go_wp2
            go_quiet (first | (go_at_call 65; refine Calls.quiet_of (HCC.out _)))
            have S2 := Lib.hid (HS.out.drewN nq)
            generalize wr.drewN nq = w2 at *
            go_wp2
            go_roundw
            case rel => exact ⟨k + 1, dj, by go_num, by omega, by omega, hsj, S2, HA, OUT.out (.inr (by simpa [ltT] using hl))⟩
            case measure => simp [intOf]; omega
        · have hd1 : decide ((a : Int) < (j : Int)) = false := decide_eq_false (by omega)
          have hd2 : ¬ (a : Int) < (j : Int) := by omega
          go_wp2
          go_quiet (fail)
          have S2 := Lib.hid (HS.out.drewN nq)
          generalize wr.drewN nq = w2 at *
          go_wp2
          go_roundw
          case rel => exact ⟨k + 1, dj, by go_num, by omega, by omega, hsj, S2, HA, OUT.out (.inl (by omega))⟩
          case measure => simp [intOf]; omega
    · have hki : ¬ (k : Int) < (b : Int) := by omega
      go_wp2
      go_end0
      refine ⟨rfl, ?_⟩
      unfold insertionSort
      rw [← HO.out, insOuter_stop _ _ _ _ _ hlt]
      exact HS.out
end Go.Proofs.Ytmjdmpapickgkaa

namespace Go.Proofs.Ytmjdmpapickgkaa
open Go.RowKit Go.Kk Go.Sort

/-- ascending by T on [a, b) -/
def Srt (T : Nat → Int) (a b : Nat) (d : Array Nat) : Prop := ∀ i j, a ≤ i → i ≤ j → j < b → T d[i]! ≤ T d[j]!
structure Merged (T : Nat → Int) (a b : Nat) (d d' : Array Nat) : Prop where
  perm : PermIn a b d d'
  srt : Srt T a b d'
theorem Srt.of_sorted {T : Nat → Int} {a b : Nat} {d : Array Nat} (h : SortedIn (ltT T) a b d) : Srt T a b d := by
  intro i j h1 h2 h3
  by_cases he : i = j
  · subst he; omega
  · have := h i j h1 (by omega) h3
    simpa [ltT] using this
theorem Srt.congr {T : Nat → Int} {a b : Nat} {d d' : Array Nat} (h : Srt T a b d) (he : ∀ x, a ≤ x → x < b → d'[x]! = d[x]!) : Srt T a b d' := by
  intro i j h1 h2 h3
  rw [he i h1 (by omega), he j (by omega) h3]
  exact h i j h1 h2 h3

/-! one element on the left -/
structure Up (d : Array Nat) (a b k : Nat) (dk : Array Nat) : Prop where
  size : dk.size = d.size
  low : ∀ x, a ≤ x → x < k → dk[x]! = d[x + 1]!
  at' : dk[k]! = d[a]!
  out : ∀ x, (x < a ∨ k < x) → dk[x]! = d[x]!
  perm : PermIn a b d dk
theorem Up.start (d : Array Nat) (a b : Nat) : Up d a b a d := ⟨rfl, fun x h1 h2 => by omega, rfl, fun _ _ => rfl, permIn_refl _ _ _⟩
theorem Up.step {d dk : Array Nat} {a b k : Nat} (h : Up d a b k dk) (hak : a ≤ k) (hk : k + 1 < b) (hb : b ≤ d.size) : Up d a b (k + 1) (swp dk k (k + 1)) := by
  have hs := h.size
  have hg := swp_get dk (i := k) (j := k + 1) (by omega) (by omega)
  refine ⟨by rw [size_swp]; exact hs, ?_, ?_, ?_, permIn_trans _ _ _ _ _ h.perm (swp_permIn _ _ _ _ _ (by omega) (by omega) (by omega) (by omega) (by omega))⟩
  · intro x h1 h2
    rw [hg]
    by_cases hx : x = k
    · subst hx
      rw [if_neg (by omega), if_pos rfl]
      exact h.out _ (by omega)
    · rw [if_neg (by omega), if_neg hx]; exact h.low x h1 (by omega)
  · rw [hg, if_pos rfl]; exact h.at'
  · intro x hx
    rw [hg, if_neg (by omega), if_neg (by omega)]
    exact h.out x (by omega)
theorem Up.merged {T : Nat → Int} {d d' : Array Nat} {a b i : Nat} (h : Up d a b (i - 1) d') (hs : Srt T (a + 1) b d) (hi : a + 1 ≤ i) (hib : i ≤ b) (h1 : ∀ x, a + 1 ≤ x → x < i → T d[x]! < T d[a]!) (h2 : ∀ x, i ≤ x → x < b → T d[a]! ≤ T d[x]!) : Merged T a b d d' := by
  refine ⟨h.perm, fun x y hx hxy hy => ?_⟩
  by_cases e : x = y
  · subst e; omega
  by_cases x1 : x < i - 1
  · rw [h.low x hx x1]
    by_cases y1 : y < i - 1
    · rw [h.low y (by omega) y1]; exact hs _ _ (by omega) (by omega) (by omega)
    · by_cases y2 : y = i - 1
      · subst y2; rw [h.at']; have := h1 (x + 1) (by omega) (by omega); omega
      · rw [h.out y (by omega)]; exact hs _ _ (by omega) (by omega) (by omega)
  · by_cases x2 : x = i - 1
    · subst x2
      rw [h.at', h.out y (by omega)]
      exact h2 y (by omega) hy
    · rw [h.out x (by omega), h.out y (by omega)]
      exact hs _ _ (by omega) (by omega) (by omega)

/-! one element on the right -/
structure Down (d : Array Nat) (a m k : Nat) (dk : Array Nat) : Prop where
  size : dk.size = d.size
  high : ∀ x, k < x → x ≤ m → dk[x]! = d[x - 1]!
  at' : dk[k]! = d[m]!
  out : ∀ x, (x < k ∨ m < x) → dk[x]! = d[x]!
  perm : PermIn a (m + 1) d dk
theorem Down.start (d : Array Nat) (a m : Nat) : Down d a m m d := ⟨rfl, fun x h1 h2 => by omega, rfl, fun _ _ => rfl, permIn_refl _ _ _⟩
theorem Down.step {d dk : Array Nat} {a m k : Nat} (h : Down d a m k dk) (hak : a < k) (hk : k ≤ m) (hb : m + 1 ≤ d.size) : Down d a m (k - 1) (swp dk k (k - 1)) := by
  have hs := h.size
  have hg := swp_get dk (i := k) (j := k - 1) (by omega) (by omega)
  refine ⟨by rw [size_swp]; exact hs, ?_, ?_, ?_, permIn_trans _ _ _ _ _ h.perm (swp_permIn _ _ _ _ _ (by omega) (by omega) (by omega) (by omega) (by omega))⟩
  · intro x h1 h2
    rw [hg]
    by_cases hx : x = k
    · subst hx
      rw [if_neg (by omega), if_pos rfl]
      exact h.out _ (by omega)
    · rw [if_neg (by omega), if_neg hx]; exact h.high x (by omega) h2
  · rw [hg, if_pos rfl]; exact h.at'
  · intro x hx
    rw [hg, if_neg (by omega), if_neg (by omega)]
    exact h.out x (by omega)
theorem Down.merged {T : Nat → Int} {d d' : Array Nat} {a m i : Nat} (h : Down d a m i d') (hs : Srt T a m d) (hi : a ≤ i) (him : i ≤ m) (h1 : ∀ x, a ≤ x → x < i → T d[x]! ≤ T d[m]!) (h2 : ∀ x, i ≤ x → x < m → T d[m]! < T d[x]!) : Merged T a (m + 1) d d' := by
  refine ⟨h.perm, fun x y hx hxy hy => ?_⟩
  by_cases e : x = y
  · subst e; omega
  by_cases x1 : x < i
  · rw [h.out x (by omega)]
    by_cases y1 : y < i
    · rw [h.out y (by omega)]; exact hs _ _ (by omega) (by omega) (by omega)
    · by_cases y2 : y = i
      · subst y2; rw [h.at']; exact h1 x hx x1
      · rw [h.high y (by omega) (by omega)]; exact hs _ _ (by omega) (by omega) (by omega)
  · by_cases x2 : x = i
    · subst x2
      rw [h.at', h.high y (by omega) (by omega)]
      have := h2 (y - 1) (by omega) (by omega)
      omega
    · rw [h.high x (by omega) (by omega), h.high y (by omega) (by omega)]
      exact hs _ _ (by omega) (by omega) (by omega)

/-! the general case -/
/-- the two halves stand apart -/
structure Halved (T : Nat → Int) (a L M e b : Nat) (d d2 : Array Nat) : Prop where
  perm : PermIn a b d d2
  s1 : Srt T a L d2
  s2 : Srt T L M d2
  s3 : Srt T M e d2
  s4 : Srt T e b d2
  cross : ∀ x y, a ≤ x → x < M → M ≤ y → y < b → T d2[x]! ≤ T d2[y]!

theorem Halved.of {T : Nat → Int} {a m b L M e : Nat} {d d2 : Array Nat} (hb : b ≤ d.size) (ham : a < m) (hmb : m < b) (hL : a ≤ L) (hLm : L ≤ m) (hLM : L ≤ M) (haM : a ≤ M) (hMb : M ≤ b) (he : e + L = M + m) (heb : e ≤ b)
    (hs1 : Srt T a m d) (hs2 : Srt T m b d) (lo : L = a ∨ e = b ∨ T d[L - 1]! ≤ T d[e]!) (hi : L = M ∨ L = m ∨ T d[e - 1]! < T d[L]!)
    (hr : (L < m ∧ m < e ∧ Rotated d L m e d2) ∨ (¬ (L < m ∧ m < e) ∧ d2 = d)) : Halved T a L M e b d d2 := by
  -- where things come from
  have f1 : ∀ x, a ≤ x → x < L → d2[x]! = d[x]! := by
    rcases hr with ⟨_, _, r⟩ | ⟨_, rfl⟩
    · exact fun x _ hx => r.out x (.inl hx)
    · exact fun _ _ _ => rfl
  have f4 : ∀ x, e ≤ x → x < b → d2[x]! = d[x]! := by
    rcases hr with ⟨_, _, r⟩ | ⟨_, rfl⟩
    · exact fun x hx _ => r.out x (.inr hx)
    · exact fun _ _ _ => rfl
  have f2 : ∀ x, L ≤ x → x < M → d2[x]! = d[m + (x - L)]! := by
    rcases hr with ⟨h1, h2, r⟩ | ⟨h1, rfl⟩
    · intro x h3 h4
      rw [r.at' x h3 (by omega)]
      unfold rotT
      rw [if_pos (by omega)]
    · intro x h3 h4
      have : L = m := by omega
      congr 1; omega
  have f3 : ∀ x, M ≤ x → x < e → d2[x]! = d[L + (x - M)]! := by
    rcases hr with ⟨h1, h2, r⟩ | ⟨h1, rfl⟩
    · intro x h3 h4
      rw [r.at' x (by omega) h4]
      unfold rotT
      rw [if_neg (by omega)]
      congr 1; omega
    · intro x h3 h4
      have : L = M := by omega
      congr 1; omega
  have hp : PermIn a b d d2 := by
    rcases hr with ⟨h1, h2, r⟩ | ⟨h1, rfl⟩
    · exact permIn_mono _ _ _ _ _ _ hL heb hb r.perm
    · exact permIn_refl _ _ _
  refine ⟨hp, ?_, ?_, ?_, ?_, ?_⟩
  · intro i j h1 h2 h3
    rw [f1 i h1 (by omega), f1 j (by omega) h3]; exact hs1 _ _ h1 h2 (by omega)
  · intro i j h1 h2 h3
    rw [f2 i h1 (by omega), f2 j (by omega) h3]; exact hs2 _ _ (by omega) (by omega) (by omega)
  · intro i j h1 h2 h3
    rw [f3 i h1 (by omega), f3 j (by omega) h3]; exact hs1 _ _ (by omega) (by omega) (by omega)
  · intro i j h1 h2 h3
    rw [f4 i h1 (by omega), f4 j (by omega) h3]; exact hs2 _ _ (by omega) (by omega) (by omega)
  · intro x y h1 h2 h3 h4
    by_cases hx : x < L
    · rw [f1 x h1 hx]
      by_cases hy : y < e
      · rw [f3 y h3 hy]; exact hs1 _ _ h1 (by omega) (by omega)
      · rw [f4 y (by omega) h4]
        have k1 := hs1 x (L - 1) h1 (by omega) (by omega)
        have k2 := hs2 e y (by omega) (by omega) h4
        rcases lo with lo | lo | lo <;> omega
    · rw [f2 x (by omega) h2]
      by_cases hy : y < e
      · rw [f3 y h3 hy]
        have k1 := hs2 (m + (x - L)) (e - 1) (by omega) (by omega) (by omega)
        have k2 := hs1 L (L + (y - M)) hL (by omega) (by omega)
        rcases hi with hi | hi | hi <;> omega
      · rw [f4 y (by omega) h4]; exact hs2 _ _ (by omega) (by omega) h4

/-- both halves merged -/
theorem Halved.merged {T : Nat → Int} {a L M e b : Nat} {d d2 d3 d4 : Array Nat} (h : Halved T a L M e b d d2) (hb : b ≤ d.size) (haM : a ≤ M) (hMb : M ≤ b) (h3 : Merged T a M d2 d3) (h4 : Merged T M b d3 d4) : Merged T a b d d4 := by
  have z2 : d2.size = d.size := h.perm.1
  have z3 : d3.size = d2.size := h3.perm.1
  have c1 : ∀ x y, a ≤ x → x < M → M ≤ y → y < b → T d3[x]! ≤ T d3[y]! := by
    intro x y hx hxM hy hyb
    rw [h3.perm.2.1 y (.inr hy)]
    exact permIn_all d2 d3 a M (fun v => T v ≤ T d2[y]!) (by omega) h3.perm (fun i hi hiM => h.cross i y hi hiM hy hyb) x hx hxM
  have c2 : ∀ x y, a ≤ x → x < M → M ≤ y → y < b → T d4[x]! ≤ T d4[y]! := by
    intro x y hx hxM hy hyb
    rw [h4.perm.2.1 x (.inl hxM)]
    exact permIn_all d3 d4 M b (fun v => T d3[x]! ≤ T v) (by omega) h4.perm (fun i hi hib => c1 x i hx hxM hi hib) y hy hyb
  refine ⟨permIn_trans _ _ _ _ _ h.perm (permIn_trans _ _ _ _ _ (permIn_mono _ _ _ _ _ _ (Nat.le_refl _) hMb (by omega) h3.perm) (permIn_mono _ _ _ _ _ _ haM (Nat.le_refl _) (by omega) h4.perm)), ?_⟩
  intro x y hx hxy hy
  by_cases hxM : x < M
  · by_cases hyM : y < M
    · rw [h4.perm.2.1 x (.inl hxM), h4.perm.2.1 y (.inl hyM)]
      exact h3.srt x y hx hxy hyM
    · exact c2 x y hx hxM (by omega) hy
  · exact h4.srt x y (by omega) hxy hy
theorem Merged.none {T : Nat → Int} {a b : Nat} {d : Array Nat} (h : Srt T a b d) : Merged T a b d d := ⟨permIn_refl _ _ _, h⟩
theorem Halved.left {T : Nat → Int} {a L M e b : Nat} {d d2 : Array Nat} (h : Halved T a L M e b d d2) (hn : ¬ (a < L ∧ L < M)) (haL : a ≤ L) (hLM : L ≤ M) : Srt T a M d2 := by
  intro i j h1 h2 h3
  by_cases hL : L = a
  · subst hL; exact h.s2 i j h1 h2 h3
  · have : L = M := by omega
    subst this; exact h.s1 i j h1 h2 h3
theorem Halved.right {T : Nat → Int} {a L M e b : Nat} {d d2 d3 : Array Nat} (h : Halved T a L M e b d d2) (hn : ¬ (M < e ∧ e < b)) (hMe : M ≤ e) (heb : e ≤ b) (hp : PermIn a M d2 d3) : Srt T M b d3 := by
  intro i j h1 h2 h3
  rw [hp.2.1 i (.inr h1), hp.2.1 j (.inr (by omega))]
  by_cases hL : e = M
  · subst hL; exact h.s4 i j h1 h2 h3
  · have : e = b := by omega
    subst this; exact h.s3 i j h1 h2 h3
end Go.Proofs.Ytmjdmpapickgkaa

namespace Go.Proofs.Ytmjdmpapickgkaa
open Go.RowKit Go.Kk Go.Sort
variable {w0 w : World} {G C n : Nat} {d : Array Nat} {T : Nat → Int}

set_option maxRecDepth 100000 in
set_option maxHeartbeats 4000000 in
theorem sym1 (a b : Nat) (h : SX w0 w G d) (hc : CmpOk w0 G C n T) (hall : AllLt d n) (hab : a + 1 < b) (hb : b ≤ d.size) (hs : d.size ≤ 1000000) (hsrt : Srt T (a + 1) b d) :
    Calls Try.prog 79 #[rowV G d.size, .int .i64 a, .int .i64 (a + 1 : Nat), .int .i64 b, cmpV C] w fun e w' => e = .returned (.tuple #[]) ∧ ∃ d', SX w0 w' G d' ∧ Merged T a b d d' := by
  have H := Lib.hid h
  clear h
  have HC := Lib.hid hc
  clear hc
  have z1 : IntKind.i64.wrap (((a + 1 : Nat) : Int) - (a : Int)) = 1 := by rw [IntWalk.i64_in _ (by omega)]; omega
  obtain ⟨m, hm⟩ : ∃ m, m = a + 1 := ⟨_, rfl⟩
  rw [← hm] at z1 ⊢ hsrt
  have HM := Lib.hid hm
  clear hm
  go_enter Try.func79, Try.ntmps79
  go_wp2
  go_loopw [10, 11] (fun vi vj wr => ∃ (i j : Nat), vi = .int .i64 i ∧ vj = .int .i64 j ∧ m ≤ i ∧ i ≤ j ∧ j ≤ b ∧ (∀ x, m ≤ x → x < i → T d[x]! < T d[a]!) ∧ (∀ x, j ≤ x → x < b → T d[a]! ≤ T d[x]!) ∧ Hid (SX w0 wr G d)) (fun vi vj _ => (intOf vj).toNat - (intOf vi).toNat)
  case atStart => exact ⟨m, b, rfl, rfl, by omega, by have := HM.out; omega, by omega, fun x _ _ => by omega, fun x _ _ => by omega, H⟩
  case round =>
    clear H
    obtain ⟨i, j, rfl, rfl, hmi, hij, hjb, hlo, hhi, HS⟩ := hrel
    by_cases hlt : i < j
    · have y1 : IntKind.i64.wrap ((i : Int) + (j : Int)) = (i : Int) + (j : Int) := IntWalk.i64_in _ (by omega)
      have hlti : (i : Int) < (j : Int) := by omega
      obtain ⟨g, hg⟩ : ∃ g, g = (i + j) / 2 := ⟨_, rfl⟩
      have y2 : ((i : Int) + (j : Int)) / 2 = (g : Int) := by omega
      have hgi : i ≤ g := by omega
      have hgj : g < j := by omega
      clear hg
      have x1 : (g : Int) < (d.size : Int) := by omega
      have hm := HM.out
      have x2 : (a : Int) < (d.size : Int) := by omega
      have c1 := HS.out.c g (by omega)
      have c2 := HS.out.c a (by omega)
      have HCC := Lib.hid (fun q => HC.out (wr.drewN q) d[g]! d[a]! (HS.out.drewN q).fr (hall g (by omega)) (hall a (by omega)))
      by_cases hl : T d[g]! < T d[a]!
      · have hv : decide (cmpI (T d[g]!) (T d[a]!) < 0) = true := decide_eq_true (by rw [cmpI_neg]; exact hl)
        have hlo' : ∀ x, m ≤ x → x < g + 1 → T d[x]! < T d[a]! := fun x h1 h2 => by
          have := hsrt x g h1 (by omega) (by omega)
          omega
        clear hm hl
        go_wp2
        go_quiet (first | (go_at_call 65; refine Calls.quiet_of (HCC.out _)))
        have S2 := Lib.hid (HS.out.drewN nq)
        generalize wr.drewN nq = w2 at *
        go_wp2
        go_roundw
        case rel => exact ⟨g + 1, j, by go_num, rfl, by omega, by omega, hjb, hlo', hhi, S2⟩
        case measure => simp [intOf]; omega
      · have hv : decide (cmpI (T d[g]!) (T d[a]!) < 0) = false := decide_eq_false (by rw [cmpI_neg]; exact hl)
        have hhi' : ∀ x, g ≤ x → x < b → T d[a]! ≤ T d[x]! := fun x h1 h2 => by
          have := hsrt g x (by omega) h1 h2
          omega
        clear hm hl
        go_wp2
        go_quiet (first | (go_at_call 65; refine Calls.quiet_of (HCC.out _)))
        have S2 := Lib.hid (HS.out.drewN nq)
        generalize wr.drewN nq = w2 at *
        go_wp2
        go_roundw
        case rel => exact ⟨i, g, rfl, rfl, by omega, by omega, by omega, hlo, hhi', S2⟩
        case measure => simp [intOf]; omega
    · obtain rfl : i = j := by omega
      have hlti : ¬ (i : Int) < (i : Int) := by omega
      have HLO := Lib.hid hlo
      have HHI := Lib.hid hhi
      clear hlo hhi
      go_wp2
      go_loopw [13] (fun vk wr => ∃ (k : Nat) (dk : Array Nat), vk = .int .i64 k ∧ a ≤ k ∧ k ≤ i - 1 ∧ Hid (Up d a b k dk) ∧ Hid (SX w0 wr G dk)) (fun vk _ => i - (intOf vk).toNat)
      case atStart => exact ⟨a, d, rfl, by omega, by have := HM.out; omega, Lib.hid (Up.start d a b), HS⟩
      case round =>
        clear HS
        obtain ⟨k, dk, rfl, hak, hki, HU, HS⟩ := hrel
        have y3 : IntKind.i64.wrap ((i : Int) - 1) = ((i - 1 : Nat) : Int) := by rw [IntWalk.i64_in _ (by omega)]; have := HM.out; omega
        have hsz := HU.out.size
        by_cases hlt : k < i - 1
        · have hlti : (k : Int) < ((i - 1 : Nat) : Int) := by omega
          have y4 : IntKind.i64.wrap ((k : Int) + 1) = (k : Int) + 1 := by rw [IntWalk.i64_in _ (by omega)]
          have y5 : ((k : Int) + 1).toNat = k + 1 := by omega
          have x1 : (k : Int) < (d.size : Int) := by omega
          have x2 : (k : Int) + 1 < (d.size : Int) := by omega
          have c1 := HS.out.c k (by omega)
          have c2 := HS.out.c (k + 1) (by omega)
          have f1 := HS.out.f k
          have f2 := HS.out.f (k + 1)
          obtain ⟨u, c3⟩ := HS.out.c2 k (k + 1) (by omega) (by omega) (dk[k + 1]!)
          have S2 := Lib.hid (HS.out.swap k (k + 1))
          clear HS
          generalize hx : dk[k]! = x at *
          generalize hy : dk[k + 1]! = y at *
          clear hx hy
          go_wp2
          go_region
          go_wp2
          go_roundw
          case rel => exact ⟨k + 1, swp dk k (k + 1), by go_num, by omega, by omega, Lib.hid (HU.out.step hak (by omega) hb), Lib.hid S2.out.drew⟩
          case measure => simp [intOf]; omega
        · obtain rfl : k = i - 1 := by have := HM.out; omega
          have hlti : ¬ ((i - 1 : Nat) : Int) < ((i - 1 : Nat) : Int) := by omega
          go_wp2
          have hm := HM.out
          subst hm
          exact bodyPost_ret (results_none rfl _ _ _) rfl ⟨rfl, dk, HS.out, HU.out.merged hsrt (by omega) (by omega) HLO.out HHI.out⟩
end Go.Proofs.Ytmjdmpapickgkaa

namespace Go.Proofs.Ytmjdmpapickgkaa
open Go.RowKit Go.Kk Go.Sort
variable {w0 w : World} {G C n : Nat} {d : Array Nat} {T : Nat → Int}

set_option maxRecDepth 100000 in
set_option maxHeartbeats 4000000 in
theorem sym2 (a m : Nat) (h : SX w0 w G d) (hc : CmpOk w0 G C n T) (hall : AllLt d n) (hab : a + 1 < m) (hb : m + 1 ≤ d.size) (hs : d.size ≤ 1000000) (hsrt : Srt T a m d) :
    Calls Try.prog 79 #[rowV G d.size, .int .i64 a, .int .i64 m, .int .i64 (m + 1 : Nat), cmpV C] w fun e w' => e = .returned (.tuple #[]) ∧ ∃ d', SX w0 w' G d' ∧ Merged T a (m + 1) d d' := by
  have H := Lib.hid h
  clear h
  have HC := Lib.hid hc
  clear hc
  obtain ⟨b, hbm⟩ : ∃ b, b = m + 1 := ⟨_, rfl⟩
  rw [← hbm] at hb ⊢
  have z1 : IntKind.i64.wrap ((b : Int) - (m : Int)) = 1 := by rw [IntWalk.i64_in _ (by omega)]; omega
  have z2 : IntKind.i64.wrap ((m : Int) - (a : Int)) = ((m - a : Nat) : Int) := by rw [IntWalk.i64_in _ (by omega)]; omega
  have z3 : (((m - a : Nat) : Int) == 1) = false := by simp; omega
  have HM := Lib.hid hbm
  clear hbm
  go_enter Try.func79, Try.ntmps79
  go_wp2
  go_loopw [14, 15] (fun vi vj wr => ∃ (i j : Nat), vi = .int .i64 i ∧ vj = .int .i64 j ∧ a ≤ i ∧ i ≤ j ∧ j ≤ m ∧ (∀ x, a ≤ x → x < i → T d[x]! ≤ T d[m]!) ∧ (∀ x, j ≤ x → x < m → T d[m]! < T d[x]!) ∧ Hid (SX w0 wr G d)) (fun vi vj _ => (intOf vj).toNat - (intOf vi).toNat)
  case atStart => exact ⟨a, m, rfl, rfl, by omega, by omega, by omega, fun x _ _ => by omega, fun x _ _ => by omega, H⟩
  case round =>
    clear H
    obtain ⟨i, j, rfl, rfl, hai, hij, hjm, hlo, hhi, HS⟩ := hrel
    have hsz1 : m < d.size := by have := HM.out; omega
    by_cases hlt : i < j
    · have y1 : IntKind.i64.wrap ((i : Int) + (j : Int)) = (i : Int) + (j : Int) := IntWalk.i64_in _ (by omega)
      have hlti : (i : Int) < (j : Int) := by omega
      obtain ⟨g, hg⟩ : ∃ g, g = (i + j) / 2 := ⟨_, rfl⟩
      have y2 : ((i : Int) + (j : Int)) / 2 = (g : Int) := by omega
      have hgi : i ≤ g := by omega
      have hgj : g < j := by omega
      clear hg
      have x1 : (g : Int) < (d.size : Int) := by omega
      have x2 : (m : Int) < (d.size : Int) := by omega
      have c1 := HS.out.c g (by omega)
      have c2 := HS.out.c m (by omega)
      have HCC := Lib.hid (fun q => HC.out (wr.drewN q) d[m]! d[g]! (HS.out.drewN q).fr (hall m (by omega)) (hall g (by omega)))
      clear hsz1
      by_cases hl : T d[m]! < T d[g]!
      · have hv : decide (cmpI (T d[m]!) (T d[g]!) < 0) = true := decide_eq_true (by rw [cmpI_neg]; exact hl)
        have hhi' : ∀ x, g ≤ x → x < m → T d[m]! < T d[x]! := fun x h1 h2 => by
          have := hsrt g x (by omega) h1 h2
          omega
        clear hl
        go_wp2
        go_quiet (first | (go_at_call 65; refine Calls.quiet_of (HCC.out _)))
        have S2 := Lib.hid (HS.out.drewN nq)
        generalize wr.drewN nq = w2 at *
        go_wp2
        go_roundw
        case rel => exact ⟨i, g, rfl, rfl, by omega, by omega, by omega, hlo, hhi', S2⟩
        case measure => simp [intOf]; omega
      · have hv : decide (cmpI (T d[m]!) (T d[g]!) < 0) = false := decide_eq_false (by rw [cmpI_neg]; exact hl)
        have hlo' : ∀ x, a ≤ x → x < g + 1 → T d[x]! ≤ T d[m]! := fun x h1 h2 => by
          have := hsrt x g h1 (by omega) (by omega)
          omega
        clear hl
        go_wp2
        go_quiet (first | (go_at_call 65; refine Calls.quiet_of (HCC.out _)))
        have S2 := Lib.hid (HS.out.drewN nq)
        generalize wr.drewN nq = w2 at *
        go_wp2
        go_roundw
        case rel => exact ⟨g + 1, j, by go_num, rfl, by omega, by omega, hjm, hlo', hhi, S2⟩
        case measure => simp [intOf]; omega
    · obtain rfl : i = j := by omega
      have hlti : ¬ (i : Int) < (i : Int) := by omega
      have HLO := Lib.hid hlo
      have HHI := Lib.hid hhi
      clear hlo hhi
      go_wp2
      go_loopw [17] (fun vk wr => ∃ (k : Nat) (dk : Array Nat), vk = .int .i64 k ∧ i ≤ k ∧ k ≤ m ∧ Hid (Down d a m k dk) ∧ Hid (SX w0 wr G dk)) (fun vk _ => (intOf vk).toNat)
      case atStart => exact ⟨m, d, rfl, by omega, by omega, Lib.hid (Down.start d a m), HS⟩
      case round =>
        clear HS
        obtain ⟨k, dk, rfl, hik, hkm, HU, HS⟩ := hrel
        have hsz := HU.out.size
        by_cases hlt : i < k
        · have hlti : (i : Int) < (k : Int) := by omega
          have y4 : IntKind.i64.wrap ((k : Int) - 1) = ((k - 1 : Nat) : Int) := by rw [IntWalk.i64_in _ (by omega)]; omega
          have x1 : (k : Int) < (d.size : Int) := by omega
          have x2 : ((k - 1 : Nat) : Int) < (d.size : Int) := by omega
          have c1 := HS.out.c k (by omega)
          have c2 := HS.out.c (k - 1) (by omega)
          have f1 := HS.out.f k
          have f2 := HS.out.f (k - 1)
          obtain ⟨u, c3⟩ := HS.out.c2 k (k - 1) (by omega) (by omega) (dk[k - 1]!)
          have S2 := Lib.hid (HS.out.swap k (k - 1))
          clear HS
          generalize hx : dk[k]! = x at *
          generalize hy : dk[k - 1]! = y at *
          clear hx hy
          go_wp2
          go_region
          go_wp2
          go_roundw
          case rel => exact ⟨k - 1, swp dk k (k - 1), rfl, by omega, by omega, Lib.hid (HU.out.step (by omega) hkm (by omega)), Lib.hid S2.out.drew⟩
          case measure => simp [intOf]; omega
        · obtain rfl : k = i := by omega
          have hlti : ¬ (k : Int) < (k : Int) := by omega
          go_wp2
          have hm := HM.out
          subst hm
          exact bodyPost_ret (results_none rfl _ _ _) rfl ⟨rfl, dk, HS.out, HU.out.merged hsrt (by omega) (by omega) HLO.out HHI.out⟩
end Go.Proofs.Ytmjdmpapickgkaa
