import Derived.Test.YtmjdmpapickgkaaS2
namespace Go.Proofs.Ytmjdmpapickgkaa
open Go.RowKit Go.Kk Go.Sort

/-- what a rotation puts at x -/
def rotT (d : Array Nat) (a m b x : Nat) : Nat := if x < a + (b - m) then d[m + (x - a)]! else d[a + (x - (a + (b - m)))]!
structure RotInv (d : Array Nat) (a m b i j : Nat) (dj : Array Nat) : Prop where
  size : dj.size = d.size
  ipos : 0 < i
  jpos : 0 < j
  il : i ≤ m - a
  jl : j ≤ b - m
  done : ∀ x, a ≤ x → x < b → (x < m - i ∨ m + j ≤ x) → dj[x]! = rotT d a m b x
  right : ∀ k, k < j → dj[m + k]! = rotT d a m b (m - i + k)
  left : ∀ k, k < i → dj[m - i + k]! = rotT d a m b (m - i + j + k)
  out : ∀ x, (x < a ∨ b ≤ x) → dj[x]! = d[x]!
  perm : PermIn a b d dj

theorem RotInv.start (d : Array Nat) (a m b : Nat) (h1 : a < m) (h2 : m < b) : RotInv d a m b (m - a) (b - m) d where
  size := rfl
  ipos := by omega
  jpos := by omega
  il := by omega
  jl := by omega
  done := fun x _ _ h => by omega
  right := fun k hk => by unfold rotT; rw [if_pos (by omega)]; congr 1; omega
  left := fun k hk => by unfold rotT; rw [if_neg (by omega)]; congr 1; omega
  out := fun _ _ => rfl
  perm := permIn_refl _ _ _

/-- what swapRange leaves -/
structure Swapped (d : Array Nat) (a b k : Nat) (d' : Array Nat) : Prop where
  size : d'.size = d.size
  ex : ∀ i, i < k → d'[a + i]! = d[b + i]! ∧ d'[b + i]! = d[a + i]!
  out : ∀ x, (x < a ∨ a + k ≤ x) → (x < b ∨ b + k ≤ x) → d'[x]! = d[x]!
  perm : ∀ lo hi, lo ≤ a → b + k ≤ hi → hi ≤ d.size → PermIn lo hi d d'

theorem Swapped.l {d d' : Array Nat} {a b k : Nat} (h : Swapped d a b k d') (x : Nat) (h1 : a ≤ x) (h2 : x < a + k) : d'[x]! = d[b + (x - a)]! := by
  have := (h.ex (x - a) (by omega)).1
  rwa [show a + (x - a) = x by omega] at this
theorem Swapped.r {d d' : Array Nat} {a b k : Nat} (h : Swapped d a b k d') (x : Nat) (h1 : b ≤ x) (h2 : x < b + k) : d'[x]! = d[a + (x - b)]! := by
  have := (h.ex (x - b) (by omega)).2
  rwa [show b + (x - b) = x by omega] at this

theorem RotInv.R {d dj : Array Nat} {a m b i j : Nat} (h : RotInv d a m b i j dj) (x : Nat) (h1 : m ≤ x) (h2 : x < m + j) : dj[x]! = rotT d a m b (x - i) := by
  have := h.right (x - m) (by omega)
  rw [show m + (x - m) = x by omega] at this
  rw [this]; congr 1
  have := h.il
  omega
theorem RotInv.L {d dj : Array Nat} {a m b i j : Nat} (h : RotInv d a m b i j dj) (x : Nat) (h1 : m - i ≤ x) (h2 : x < m) : dj[x]! = rotT d a m b (x + j) := by
  have := h.left (x - (m - i)) (by have := h.il; omega)
  rw [show m - i + (x - (m - i)) = x by omega] at this
  rw [this]; congr 1
  omega

theorem RotInv.big {d dj d2 : Array Nat} {a m b i j : Nat} (h : RotInv d a m b i j dj) (hij : j < i) (ham : a < m) (hmb : m < b) (hb : b ≤ d.size) (s : Swapped dj (m - i) m j d2) : RotInv d a m b (i - j) j d2 := by
  have e1 := h.il
  have e2 := h.jl
  have e3 := h.jpos
  have e4 := h.size
  refine ⟨s.size.trans h.size, by omega, e3, by omega, e2, ?_, ?_, ?_, ?_, permIn_trans _ _ _ _ _ h.perm (s.perm a b (by omega) (by omega) (by omega))⟩
  · intro x h1 h2 h3
    by_cases hx : x < m - i ∨ m + j ≤ x
    · rw [s.out x (by omega) (by omega)]; exact h.done x h1 h2 hx
    · rw [s.l x (by omega) (by omega), h.R _ (by omega) (by omega)]; congr 1; omega
  · intro k hk
    rw [s.r (m + k) (by omega) (by omega), h.L _ (by omega) (by omega)]; congr 1; omega
  · intro k hk
    rw [s.out (m - (i - j) + k) (by omega) (by omega), h.L _ (by omega) (by omega)]; congr 1; omega
  · intro x hx
    rw [s.out x (by omega) (by omega)]; exact h.out x hx

theorem RotInv.small {d dj d2 : Array Nat} {a m b i j : Nat} (h : RotInv d a m b i j dj) (hij : i < j) (ham : a < m) (hmb : m < b) (hb : b ≤ d.size) (s : Swapped dj (m - i) (m + j - i) i d2) : RotInv d a m b i (j - i) d2 := by
  have e1 := h.il
  have e2 := h.jl
  have e3 := h.ipos
  have e4 := h.size
  refine ⟨s.size.trans h.size, e3, by omega, e1, by omega, ?_, ?_, ?_, ?_, permIn_trans _ _ _ _ _ h.perm (s.perm a b (by omega) (by omega) (by omega))⟩
  · intro x h1 h2 h3
    by_cases hx : x < m - i ∨ m + j ≤ x
    · rw [s.out x (by omega) (by omega)]; exact h.done x h1 h2 hx
    · rw [s.r x (by omega) (by omega), h.L _ (by omega) (by omega)]; congr 1; omega
  · intro k hk
    rw [s.out (m + k) (by omega) (by omega), h.R _ (by omega) (by omega)]; congr 1; omega
  · intro k hk
    rw [s.l (m - i + k) (by omega) (by omega), h.R _ (by omega) (by omega)]; congr 1; omega
  · intro x hx
    rw [s.out x (by omega) (by omega)]; exact h.out x hx

/-- what rotate leaves -/
structure Rotated (d : Array Nat) (a m b : Nat) (d' : Array Nat) : Prop where
  size : d'.size = d.size
  at' : ∀ x, a ≤ x → x < b → d'[x]! = rotT d a m b x
  out : ∀ x, (x < a ∨ b ≤ x) → d'[x]! = d[x]!
  perm : PermIn a b d d'
theorem RotInv.last {d dj d2 : Array Nat} {a m b i : Nat} (h : RotInv d a m b i i dj) (ham : a < m) (hmb : m < b) (hb : b ≤ d.size) (s : Swapped dj (m - i) m i d2) : Rotated d a m b d2 := by
  have e1 := h.il
  have e2 := h.jl
  have e3 := h.ipos
  have e4 := h.size
  refine ⟨s.size.trans h.size, ?_, ?_, permIn_trans _ _ _ _ _ h.perm (s.perm a b (by omega) (by omega) (by omega))⟩
  · intro x h1 h2
    by_cases hx : x < m - i ∨ m + i ≤ x
    · rw [s.out x (by omega) (by omega)]; exact h.done x h1 h2 hx
    · by_cases hm : x < m
      · rw [s.l x (by omega) (by omega), h.R _ (by omega) (by omega)]; congr 1; omega
      · rw [s.r x (by omega) (by omega), h.L _ (by omega) (by omega)]; congr 1; omega
  · intro x hx
    rw [s.out x (by omega) (by omega)]; exact h.out x hx

variable {w0 w : World} {G : Nat} {d : Array Nat}
theorem swapRange_s (fv : Value) (N a b k : Nat) (h : SX w0 w G d) (hN : N = d.size) (hab : a + k ≤ b) (hb : b + k ≤ d.size) (hs : d.size ≤ 1000000) :
    Calls Try.prog 81 #[rowV G N, .int .i64 a, .int .i64 b, .int .i64 k, fv] w fun e w' => e = .returned (.tuple #[]) ∧ ∃ d', SX w0 w' G d' ∧ Swapped d a b k d' := by
  subst hN
  exact (swapRange_any fv a b k h hab hb hs).mono fun _ _ ⟨he, d', h1, h2, h3, h4, h5⟩ => ⟨he, d', h1, h2, h3, h4, h5⟩

set_option maxHeartbeats 1000000 in
theorem rotate_any (fv : Value) (a m b : Nat) (h : SX w0 w G d) (ham : a < m) (hmb : m < b) (hb : b ≤ d.size) (hs : d.size ≤ 1000000) :
    Calls Try.prog 80 #[rowV G d.size, .int .i64 a, .int .i64 m, .int .i64 b, fv] w fun e w' => e = .returned (.tuple #[]) ∧ ∃ d', SX w0 w' G d' ∧ Rotated d a m b d' := by
  have H := Lib.hid h
  clear h
  have z1 : IntKind.i64.wrap ((m : Int) - (a : Int)) = ((m - a : Nat) : Int) := by rw [IntWalk.i64_in _ (by omega)]; omega
  have z2 : IntKind.i64.wrap ((b : Int) - (m : Int)) = ((b - m : Nat) : Int) := by rw [IntWalk.i64_in _ (by omega)]; omega
  go_enter Try.func80, Try.ntmps80
  go_wp2
  go_loopw [10, 11] (fun i j wr => ∃ (ni nj : Nat) (dj : Array Nat), i = .int .i64 ni ∧ j = .int .i64 nj ∧ Hid (SX w0 wr G dj) ∧ Hid (RotInv d a m b ni nj dj)) (fun i j _ => (intOf i).toNat + (intOf j).toNat)
  case atStart => exact ⟨m - a, b - m, d, by go_num, by go_num, H, Lib.hid (RotInv.start d a m b ham hmb)⟩
  case round =>
    clear H
    obtain ⟨i, j, dj, rfl, rfl, HS, HR⟩ := hrel
    obtain ⟨hsz, hi0, hj0, hil, hjl⟩ : dj.size = d.size ∧ 0 < i ∧ 0 < j ∧ i ≤ m - a ∧ j ≤ b - m := ⟨HR.out.size, HR.out.ipos, HR.out.jpos, HR.out.il, HR.out.jl⟩
    have y1 : IntKind.i64.wrap ((m : Int) - (i : Int)) = ((m - i : Nat) : Int) := by rw [IntWalk.i64_in _ (by omega)]; omega
    by_cases h1 : i = j
    · subst h1
      go_wp2_with (first | (go_at_call 81; (refine (swapRange_s fv d.size (m - i) m i HS.out (by omega) (by omega) (by omega) (by omega)).mono ?_; rintro e w1 ⟨rfl, d2, hS2, hW⟩)))
      go_end0
      exact ⟨rfl, d2, hS2, HR.out.last ham hmb hb hW⟩
    · by_cases h2 : j < i
      · have y2 : IntKind.i64.wrap ((i : Int) - (j : Int)) = ((i - j : Nat) : Int) := by rw [IntWalk.i64_in _ (by omega)]; omega
        go_wp2_with (first | (go_at_call 81; (refine (swapRange_s fv d.size (m - i) m j HS.out (by omega) (by omega) (by omega) (by omega)).mono ?_; rintro e w1 ⟨rfl, d2, hS2, hW⟩)))
        go_roundw
        case rel => exact ⟨i - j, j, d2, rfl, rfl, Lib.hid hS2, Lib.hid (HR.out.big h2 ham hmb hb hW)⟩
        case measure => simp [intOf]; omega
      · have y2 : IntKind.i64.wrap ((j : Int) - (i : Int)) = ((j - i : Nat) : Int) := by rw [IntWalk.i64_in _ (by omega)]; omega
        have y3 : IntKind.i64.wrap ((m : Int) + (j : Int)) = (m : Int) + (j : Int) := by rw [IntWalk.i64_in _ (by omega)]
        have y4 : IntKind.i64.wrap ((m : Int) + (j : Int) - (i : Int)) = ((m + j - i : Nat) : Int) := by rw [IntWalk.i64_in _ (by omega)]; omega
        go_wp2_with (first | (go_at_call 81; (refine (swapRange_s fv d.size (m - i) (m + j - i) i HS.out (by omega) (by omega) (by omega) (by omega)).mono ?_; rintro e w1 ⟨rfl, d2, hS2, hW⟩)))
        go_roundw
        case rel => exact ⟨i, j - i, d2, rfl, rfl, Lib.hid hS2, Lib.hid (HR.out.small (by omega) ham hmb hb hW)⟩
        case measure => simp [intOf]; omega
end Go.Proofs.Ytmjdmpapickgkaa
