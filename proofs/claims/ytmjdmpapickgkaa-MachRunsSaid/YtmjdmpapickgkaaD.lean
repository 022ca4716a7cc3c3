import Derived.Test.YtmjdmpapickgkaaC
namespace Go.Proofs.Ytmjdmpapickgkaa
open Go.RowKit Go.Kk

/-- no operation's list of sources is long (Wide says so of all inputs) -/
def Narrow (p : List Opn) : Prop := p.length ≤ 1000000 ∧ ∀ o ∈ p, o.src.length ≤ 1000000

set_option maxHeartbeats 1000000 in
theorem indexOp_any (p : List Opn) (v : Value) (b : Nat) (w : World) (base : Option Addr) (m cp : Nat) (hm : m ≤ 1000000) (hl : IsProg w v p) (hb : w.cell? ⟨b, 0, none⟩ = some (.slice base m cp)) (hlen : Narrow p) :
    Calls Try.prog 58 #[v, .func (.func 45) #[] #[.pointer (some ⟨b, 0, none⟩)]] w fun e w' => ∃ r, e = .returned (.int .i64 r) ∧ decide (0 ≤ r) = p.any (fun o => ! okOp m o) ∧ Below w.heap.size w w' := by
  obtain ⟨bs, cq, hval⟩ := hl.1.shape
  subst hval
  go_enter Try.func58, Try.ntmps58
  have hlp := hlen.1
  go_wp2
  go_loopw [8] (fun i wr => ∃ k : Nat, k ≤ p.length ∧ i = .int .i64 k ∧ (p.take k).any (fun o => ! okOp m o) = false ∧ Below w.heap.size w wr) (fun i _ => p.length - (intOf i).toNat)
  case atStart => exact ⟨0, by omega, rfl, by simp, Below.refl _ _⟩
  case round =>
    obtain ⟨k, hk, rfl, hany, hbel⟩ := hrel
    by_cases hlt : k < p.length
    · obtain ⟨b1, off, cp1, hv, hc, hcl⟩ := Sl.at hl.1 (by omega)
      injection hv with hv1 _ hv3
      subst hv1 hv3
      have hcl' := hcl.keeps (Keeps.of_below hbel)
      obtain ⟨c0, c1, c2, c3, c4, c5⟩ := op_cells hcl' k hlt
      have hbc := Keeps.of_below hbel _ _ hb
      have hsr := (hl.2 p[k] (List.getElem_mem _)).keeps (Keeps.of_below hbel)
      have hsl := hlen.2 p[k] (List.getElem_mem _)
      clear hl hcl hcl' hb hlen
      have HS := notOp_any p[k] b wr base m cp hm hbc hsr hsl
      have hat := any_of_at (fun o => ! okOp m o) p k hlt
      have hnx := any_take_succ (fun o => ! okOp m o) p k hlt hany
      have HS := Lib.hid HS
      clear hsr
      unfold Opn.v at HS
      generalize p[k] = o at *
      obtain ⟨bh, ch, hoh⟩ : ∃ x : Value, ∃ _ : True, o.h = x := ⟨_, trivial, rfl⟩
      rw [hoh] at c5 HS
      by_cases hok : okOp m o = true
      · go_wp2_with (first | (go_at_call 45; refine HS.out.mono ?_; rintro e w1 ⟨rfl, h1⟩))
        go_roundw
        case rel => exact ⟨k + 1, by omega, by go_num, hnx (by simp [hok]), hbel.trans (h1.mono hbel.size)⟩
        case measure => simp [intOf]; omega
      · go_wp2_with (first | (go_at_call 45; refine HS.out.mono ?_; rintro e w1 ⟨rfl, h1⟩))
        go_ret
        refine ⟨_, rfl, ?_, hbel.trans (h1.mono hbel.size)⟩
        rw [hat (by simp [hok])]; simp
    · obtain rfl : k = p.length := by omega
      go_wp2
      go_ret
      refine ⟨_, rfl, ?_, hbel⟩
      rw [List.take_length] at hany
      rw [hany]; rfl

set_option maxHeartbeats 400000 in
theorem containsOp_any (p : List Opn) (v : Value) (b : Nat) (w : World) (base : Option Addr) (m cp : Nat) (hm : m ≤ 1000000) (hl : IsProg w v p) (hb : w.cell? ⟨b, 0, none⟩ = some (.slice base m cp)) (hlen : Narrow p) :
    Calls Try.prog 44 #[v, .func (.func 45) #[] #[.pointer (some ⟨b, 0, none⟩)]] w fun e w' => e = .returned (.bool (p.any (fun o => ! okOp m o))) ∧ Below w.heap.size w w' := by
  have H := Lib.hid (indexOp_any p v b w base m cp hm hl hb hlen)
  clear hl hb
  go_enter Try.func44, Try.ntmps44
  go_wp2_with (first | (go_at_call 58; refine H.out.mono ?_; rintro e w1 ⟨r, rfl, hr, h1⟩))
  all_goals
    go_ret
    exact ⟨by rw [← hr]; simp, h1⟩

/-- is the program valid -/
def okProg (p : List Opn) : Bool := decide (p.length ≤ 4000) && ! p.any (fun o => ! okOp p.length o)

set_option maxHeartbeats 400000 in
theorem valid_any (p : List Opn) (v : Value) (w : World) (hl : IsProg w v p) (hlen : Narrow p) :
    Calls Try.prog 22 #[v] w fun e w' => e = .returned (.bool (okProg p)) ∧ Below w.heap.size w w' := by
  obtain ⟨bs, cq, hval⟩ := hl.1.shape
  subst hval
  have hlp := hlen.1
  have HC := Lib.hid (fun w1 b hl hb => containsOp_any p (.slice bs p.length cq) b w1 bs p.length cq hlp hl hb hlen)
  have HL := Lib.hid hl
  clear hl
  by_cases h : p.length ≤ 4000
  · go_enter Try.func22, Try.ntmps22
    go_wp2_with (first | (go_at_call 44; refine (HC.out _ _ (HL.out.keeps (Keeps.of_below (below_alloc _ _))) (newA _ _ _ _ _ _ rfl rfl)).mono ?_; rintro e w1 ⟨rfl, hb⟩))
    go_ret
    exact ⟨by simp [okProg, h], (below_alloc _ _).trans (hb.mono (by simp))⟩
  · go_enter Try.func22, Try.ntmps22
    go_wp2
    go_ret
    exact ⟨by simp [okProg, h], below_alloc _ _⟩
end Go.Proofs.Ytmjdmpapickgkaa
