import Derived.Test.YtmjdmpapickgkaaS1
namespace Go.Proofs.Ytmjdmpapickgkaa
open Go.RowKit Go.Kk Go.Sort

/-- block G holds the row d -/
def Arr (w : World) (G : Nat) (d : Array Nat) : Prop := w.heap[G]? = some (.cells (d.map fun (x : Nat) => Value.int .i64 (x : Int)) 3 (0, 0))
/-- .. and all else is as in w0 -/
structure SX (w0 w : World) (G : Nat) (d : Array Nat) : Prop where
  arr : Arr w G d
  fr : Fr (· = G) w0 w

variable {w0 w : World} {G : Nat} {d : Array Nat}
theorem SX.c (h : SX w0 w G d) (i : Nat) (hi : i < d.size) : w.cell? ⟨G, i, none⟩ = some (.int .i64 (d[i]! : Nat)) := by
  refine cell_of_heap h.arr ?_
  simp [hi]
theorem SX.f (h : SX w0 w G d) (i : Nat) : w.frozen? ⟨G, i, none⟩ = false := frozen_of_heap h.arr
theorem SX.drewN (h : SX w0 w G d) (n : Nat) : SX w0 (w.drewN n) G d := ⟨h.arr, ⟨h.fr.os, h.fr.tape, h.fr.output, h.fr.size, h.fr.block⟩⟩
theorem SX.drew (h : SX w0 w G d) : SX w0 w.drew G d := h.drewN 1
theorem SX.set (h : SX w0 w G d) (i x : Nat) : SX w0 (w.setCell ⟨G, i, none⟩ (.int .i64 x)) G (d.setIfInBounds i x) :=
  ⟨by
    have := hset_same (i := i) (.int .i64 x) h.arr
    unfold Arr
    rw [this]
    congr 2
    apply Array.ext_getElem?
    intro j
    simp only [Array.getElem?_setIfInBounds, Array.getElem?_map, Array.size_map]
    by_cases hij : i = j
    · subst hij
      by_cases hi : i < d.size <;> simp [hi]
    · simp [hij]
    , h.fr.setCell rfl _⟩
theorem SX.swap (h : SX w0 w G d) (i j : Nat) : SX w0 ((w.setCell ⟨G, i, none⟩ (.int .i64 (d[j]! : Nat))).setCell ⟨G, j, none⟩ (.int .i64 (d[i]! : Nat))) G (swp d i j) := (h.set i d[j]!).set j d[i]!
theorem SX.c2 (h : SX w0 w G d) (i j : Nat) (_ : i < d.size) (hj : j < d.size) (x : Nat) : ∃ u, (w.setCell ⟨G, i, none⟩ (.int .i64 x)).cell? ⟨G, j, none⟩ = some u := ⟨_, (h.set i x).c j (by simpa using hj)⟩

/-- the row as a slice -/
abbrev rowV (G n : Nat) : Value := .slice (some ⟨G, 0, none⟩) n n

set_option maxHeartbeats 1000000 in
theorem swapRange_any (fv : Value) (a b k : Nat) (h : SX w0 w G d) (hab : a + k ≤ b) (hb : b + k ≤ d.size) (hs : d.size ≤ 1000000) :
    Calls Try.prog 81 #[rowV G d.size, .int .i64 a, .int .i64 b, .int .i64 k, fv] w fun e w' => e = .returned (.tuple #[]) ∧ ∃ d', SX w0 w' G d' ∧ d'.size = d.size ∧
      (∀ i, i < k → d'[a + i]! = d[b + i]! ∧ d'[b + i]! = d[a + i]!) ∧ (∀ x, (x < a ∨ a + k ≤ x) → (x < b ∨ b + k ≤ x) → d'[x]! = d[x]!) ∧ ∀ lo hi, lo ≤ a → b + k ≤ hi → hi ≤ d.size → PermIn lo hi d d' := by
  have H := Lib.hid h
  clear h
  go_enter Try.func81, Try.ntmps81
  go_wp2
  go_loopw [10] (fun i wr => ∃ (j : Nat) (dj : Array Nat), j ≤ k ∧ i = .int .i64 j ∧ dj.size = d.size ∧ Hid (SX w0 wr G dj) ∧ (∀ i, i < j → dj[a + i]! = d[b + i]! ∧ dj[b + i]! = d[a + i]!) ∧ (∀ x, (x < a ∨ a + j ≤ x) → (x < b ∨ b + j ≤ x) → dj[x]! = d[x]!) ∧ ∀ lo hi, lo ≤ a → b + k ≤ hi → hi ≤ d.size → PermIn lo hi d dj) (fun i _ => k - (intOf i).toNat)
  case atStart => exact ⟨0, d, by omega, rfl, rfl, H, fun i hi => by omega, fun _ _ _ => rfl, fun lo hi _ _ _ => permIn_refl _ _ _⟩
  case round =>
    obtain ⟨j, dj, hj, rfl, hsz, HS, hin, hout, hperm⟩ := hrel
    by_cases hlt : j < k
    · have HH := Lib.hid (And.intro hin (And.intro hout hperm))
      clear hin hout hperm
      have S := HS.out
      have c1 := S.c (a + j) (by omega)
      have c2 := S.c (b + j) (by omega)
      have f1 := S.f (a + j)
      have f2 := S.f (b + j)
      have S2 := Lib.hid (S.swap (a + j) (b + j))
      have hcc := S.c2 (a + j) (b + j) (by omega) (by omega) (dj[b + j]!)
      clear S HS H
      generalize hx : dj[a + j]! = x at *
      generalize hy : dj[b + j]! = y at *
      obtain ⟨u, c3⟩ := hcc
      have z1 : (a : Int) + (j : Int) < (d.size : Int) := by omega
      have z2 : (b : Int) + (j : Int) < (d.size : Int) := by omega
      have w1 : IntKind.i64.wrap ((a : Int) + (j : Int)) = (a : Int) + (j : Int) := IntWalk.i64_in _ (by omega)
      have w2 : IntKind.i64.wrap ((b : Int) + (j : Int)) = (b : Int) + (j : Int) := IntWalk.i64_in _ (by omega)
      have t1 : ((a : Int) + (j : Int)).toNat = a + j := by omega
      have t2 : ((b : Int) + (j : Int)).toNat = b + j := by omega
      go_wp2
      go_region
      go_wp2
      go_roundw
      case rel =>
        obtain ⟨hin, hout, hperm⟩ := HH.out
        have hg := swp_get dj (i := a + j) (j := b + j) (by omega) (by omega)
        refine ⟨j + 1, swp dj (a + j) (b + j), by omega, by go_num, by rw [size_swp]; exact hsz, Lib.hid S2.out.drew, ?_, ?_, ?_⟩
        · intro i hi
          by_cases hij : i = j
          · subst hij
            have e1 := hout (a + i) (.inr (by omega)) (.inl (by omega))
            have e2 := hout (b + i) (.inr (by omega)) (.inr (by omega))
            rw [hg, hg, if_neg (by omega), if_pos rfl, if_pos rfl]
            exact ⟨e2, e1⟩
          · rw [hg, hg, if_neg (by omega), if_neg (by omega), if_neg (by omega), if_neg (by omega)]
            exact hin i (by omega)
        · intro x h1 h2
          rw [hg]
          rw [if_neg (by omega), if_neg (by omega)]
          exact hout x (by omega) (by omega)
        · intro lo hi h1 h2 h3
          exact permIn_trans _ _ _ _ _ (hperm lo hi h1 h2 h3) (swp_permIn _ _ _ _ _ (by omega) (by omega) (by omega) (by omega) (by omega))
      case measure => simp [intOf]; omega
    · obtain rfl : j = k := by omega
      go_wp2
      go_end0
      exact ⟨rfl, dj, HS.out, hsz, hin, hout, hperm⟩
end Go.Proofs.Ytmjdmpapickgkaa
