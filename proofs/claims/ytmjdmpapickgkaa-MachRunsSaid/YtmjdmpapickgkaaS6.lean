import Derived.Test.YtmjdmpapickgkaaS5
namespace Go.Proofs.Ytmjdmpapickgkaa
open Go.RowKit Go.Kk Go.Sort
variable {w0 w : World} {G C n : Nat} {d : Array Nat} {T : Nat → Int}

set_option maxRecDepth 100000 in
set_option maxHeartbeats 4000000 in
theorem sym1 (a b : Nat) (h : SX w0 w G d) (hc : CmpOk w0 G C n T) (hall : AllLt d n) (hab : a + 1 < b) (hb : b ≤ d.size) (hs : d.size ≤ 1000000) (hsrt : Srt T (a + 1) b d) :
    Calls Try.prog 79 #[rowV G d.size, .int .i64 a, .int .i64 (a + 1 : Nat), .int .i64 b, cmpV C] w fun e w' => e = .returned (.tuple #[]) ∧ ∃ d', SX w0 w' G d' ∧ Merged T a b d d' := by
  have H := Lib.hid h
  clear h
  have HC := Lib.hid hc
  clear hc
  have z1 : IntKind.i64.wrap (((a + 1 : Nat) : Int) - (a : Int)) = 1 := by rw [IntWalk.i64_in _ (by omega)]; omega
  obtain ⟨m, hm⟩ : ∃ m, m = a + 1 := ⟨_, rfl⟩
  rw [← hm] at z1 ⊢ hsrt
  have HM := Lib.hid hm
  clear hm
  go_enter Try.func79, Try.ntmps79
  go_wp2
  go_loopw [10, 11] (fun vi vj wr => ∃ (i j : Nat), vi = .int .i64 i ∧ vj = .int .i64 j ∧ m ≤ i ∧ i ≤ j ∧ j ≤ b ∧ (∀ x, m ≤ x → x < i → T d[x]! < T d[a]!) ∧ (∀ x, j ≤ x → x < b → T d[a]! ≤ T d[x]!) ∧ Hid (SX w0 wr G d)) (fun vi vj _ => (intOf vj).toNat - (intOf vi).toNat)
  case atStart => exact ⟨m, b, rfl, rfl, by omega, by have := HM.out; omega, by omega, fun x _ _ => by omega, fun x _ _ => by omega, H⟩
  case round =>
    clear H
    obtain ⟨i, j, rfl, rfl, hmi, hij, hjb, hlo, hhi, HS⟩ := hrel
    by_cases hlt : i < j
    · have y1 : IntKind.i64.wrap ((i : Int) + (j : Int)) = (i : Int) + (j : Int) := IntWalk.i64_in _ (by omega)
      have hlti : (i : Int) < (j : Int) := by omega
      obtain ⟨g, hg⟩ : ∃ g, g = (i + j) / 2 := ⟨_, rfl⟩
      have y2 : ((i : Int) + (j : Int)) / 2 = (g : Int) := by omega
      have hgi : i ≤ g := by omega
      have hgj : g < j := by omega
      clear hg
      have x1 : (g : Int) < (d.size : Int) := by omega
      have hm := HM.out
      have x2 : (a : Int) < (d.size : Int) := by omega
      have c1 := HS.out.c g (by omega)
      have c2 := HS.out.c a (by omega)
      have HCC := Lib.hid (fun q => HC.out (wr.drewN q) d[g]! d[a]! (HS.out.drewN q).fr (hall g (by omega)) (hall a (by omega)))
      by_cases hl : T d[g]! < T d[a]!
      · have hv : decide (cmpI (T d[g]!) (T d[a]!) < 0) = true := decide_eq_true (by rw [cmpI_neg]; exact hl)
        have hlo' : ∀ x, m ≤ x → x < g + 1 → T d[x]! < T d[a]! := fun x h1 h2 => by
          have := hsrt x g h1 (by omega) (by omega)
          omega
        clear hm hl
        go_wp2
        go_quiet (first | (go_at_call 65; refine Calls.quiet_of (HCC.out _)))
        have S2 := Lib.hid (HS.out.drewN nq)
        generalize wr.drewN nq = w2 at *
        go_wp2
        go_roundw
        case rel => exact ⟨g + 1, j, by go_num, rfl, by omega, by omega, hjb, hlo', hhi, S2⟩
        case measure => simp [intOf]; omega
      · have hv : decide (cmpI (T d[g]!) (T d[a]!) < 0) = false := decide_eq_false (by rw [cmpI_neg]; exact hl)
        have hhi' : ∀ x, g ≤ x → x < b → T d[a]! ≤ T d[x]! := fun x h1 h2 => by
          have := hsrt g x (by omega) h1 h2
          omega
        clear hm hl
        go_wp2
        go_quiet (first | (go_at_call 65; refine Calls.quiet_of (HCC.out _)))
        have S2 := Lib.hid (HS.out.drewN nq)
        generalize wr.drewN nq = w2 at *
        go_wp2
        go_roundw
        case rel => exact ⟨i, g, rfl, rfl, by omega, by omega, by omega, hlo, hhi', S2⟩
        case measure => simp [intOf]; omega
    · obtain rfl : i = j := by omega
      have hlti : ¬ (i : Int) < (i : Int) := by omega
      have HLO := Lib.hid hlo
      have HHI := Lib.hid hhi
      clear hlo hhi
      go_wp2
      go_loopw [13] (fun vk wr => ∃ (k : Nat) (dk : Array Nat), vk = .int .i64 k ∧ a ≤ k ∧ k ≤ i - 1 ∧ Hid (Up d a b k dk) ∧ Hid (SX w0 wr G dk)) (fun vk _ => i - (intOf vk).toNat)
      case atStart => exact ⟨a, d, rfl, by omega, by have := HM.out; omega, Lib.hid (Up.start d a b), HS⟩
      case round =>
        clear HS
        obtain ⟨k, dk, rfl, hak, hki, HU, HS⟩ := hrel
        have y3 : IntKind.i64.wrap ((i : Int) - 1) = ((i - 1 : Nat) : Int) := by rw [IntWalk.i64_in _ (by omega)]; have := HM.out; omega
        have hsz := HU.out.size
        by_cases hlt : k < i - 1
        · have hlti : (k : Int) < ((i - 1 : Nat) : Int) := by omega
          have y4 : IntKind.i64.wrap ((k : Int) + 1) = (k : Int) + 1 := by rw [IntWalk.i64_in _ (by omega)]
          have y5 : ((k : Int) + 1).toNat = k + 1 := by omega
          have x1 : (k : Int) < (d.size : Int) := by omega
          have x2 : (k : Int) + 1 < (d.size : Int) := by omega
          have c1 := HS.out.c k (by omega)
          have c2 := HS.out.c (k + 1) (by omega)
          have f1 := HS.out.f k
          have f2 := HS.out.f (k + 1)
          obtain ⟨u, c3⟩ := HS.out.c2 k (k + 1) (by omega) (by omega) (dk[k + 1]!)
          have S2 := Lib.hid (HS.out.swap k (k + 1))
          clear HS
          generalize hx : dk[k]! = x at *
          generalize hy : dk[k + 1]! = y at *
          clear hx hy
          go_wp2
          go_region
          go_wp2
          go_roundw
          case rel => exact ⟨k + 1, swp dk k (k + 1), by go_num, by omega, by omega, Lib.hid (HU.out.step hak (by omega) hb), Lib.hid S2.out.drew⟩
          case measure => simp [intOf]; omega
        · obtain rfl : k = i - 1 := by have := HM.out; omega
          have hlti : ¬ ((i - 1 : Nat) : Int) < ((i - 1 : Nat) : Int) := by omega
          go_wp2
          have hm := HM.out
          subst hm
          exact bodyPost_ret (results_none rfl _ _ _) rfl ⟨rfl, dk, HS.out, HU.out.merged hsrt (by omega) (by omega) HLO.out HHI.out⟩
end Go.Proofs.Ytmjdmpapickgkaa
