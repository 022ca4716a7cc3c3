import Derived.Test.YtmjdmpapickgkaaF
import Derived.Sort.LotA
import Derived.Deep.LoopGhost
namespace Go.Proofs.Ytmjdmpapickgkaa
open Go.RowKit Go.Kk

/-- cmp.Compare -/
def cmpI (x y : Int) : Int := if x < y then -1 else if y < x then 1 else 0
set_option maxHeartbeats 400000 in
theorem isNaN_any (x : Int) (w : World) : Calls Try.prog 77 #[.int .i64 x] w fun e w' => e = .returned (.bool false) ∧ w' = w := by
  go_enter Try.func77, Try.ntmps77
  go_wp2
  go_ret
  simp
set_option maxHeartbeats 400000 in
theorem compare_any (x y : Int) (w : World) : Calls Try.prog 66 #[.int .i64 x, .int .i64 y] w fun e w' => e = .returned (.int .i64 (cmpI x y)) ∧ w' = w := by
  have hv : cmpI x y = if x < y then -1 else if y < x then 1 else 0 := rfl
  by_cases h1 : x < y
  · rw [if_pos h1] at hv
    rw [hv]
    clear hv
    go_enter Try.func66, Try.ntmps66
    go_wp2_with (first | (go_at_call 77; refine (isNaN_any _ _).mono ?_; rintro e w1 ⟨rfl, rfl⟩))
    go_ret
    exact ⟨rfl, rfl⟩
  · rw [if_neg h1] at hv
    by_cases h2 : y < x
    · rw [if_pos h2] at hv
      rw [hv]
      clear hv
      go_enter Try.func66, Try.ntmps66
      go_wp2_with (first | (go_at_call 77; refine (isNaN_any _ _).mono ?_; rintro e w1 ⟨rfl, rfl⟩))
      go_ret
      exact ⟨rfl, rfl⟩
    · rw [if_neg h2] at hv
      rw [hv]
      clear hv
      go_enter Try.func66, Try.ntmps66
      go_wp2_with (first | (go_at_call 77; refine (isNaN_any _ _).mono ?_; rintro e w1 ⟨rfl, rfl⟩))
      go_ret
      exact ⟨rfl, rfl⟩

/-- the time of operation i -/
def timeOf (p : List Opn) (i : Nat) : Int := if h : i < p.length then (p[i]'h).time else 0

set_option maxHeartbeats 1000000 in
theorem closure65 (p : List Opn) (base : Option Addr) (cp C : Nat) (w : World) (hl : IsProg w (.slice base p.length cp) p) (hC : w.cell? ⟨C, 0, none⟩ = some (.slice base p.length cp)) (hlen : Narrow p)
    (i j : Nat) (hi : i < p.length) (hj : j < p.length) :
    Calls Try.prog 65 #[.int .i64 i, .int .i64 j, .pointer (some ⟨C, 0, none⟩)] w fun e w' => e = .returned (.int .i64 (cmpI (timeOf p i) (timeOf p j))) ∧ ∃ q, w' = w.drewN q := by
  obtain ⟨b1, off, cp1, hv, hc, hcl⟩ := Sl.at hl.1 (by omega)
  injection hv with hv1 _ hv3
  subst hv1 hv3
  obtain ⟨c0, _⟩ := op_cells hcl i hi
  obtain ⟨d0, _⟩ := op_cells hcl j hj
  have hti : timeOf p i = p[i].time := by unfold timeOf; rw [dif_pos hi]
  have htj : timeOf p j = p[j].time := by unfold timeOf; rw [dif_pos hj]
  rw [hti, htj]
  have hlp := hlen.1
  have z1 : (i : Int) < (p.length : Int) := by omega
  have z2 : (j : Int) < (p.length : Int) := by omega
  clear hl hcl hti htj
  generalize p[i].time = x at *
  generalize p[j].time = y at *
  go_enter Try.func65, Try.ntmps65
  go_wp2
  go_quiet (first | (go_at_call 66; refine Calls.quiet_of_same (compare_any _ _ _)))
  go_wp2
  go_ret
  exact ⟨rfl, _, rfl⟩
end Go.Proofs.Ytmjdmpapickgkaa
