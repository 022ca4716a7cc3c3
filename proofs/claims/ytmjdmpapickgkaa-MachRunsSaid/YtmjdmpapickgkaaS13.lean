import Derived.Test.YtmjdmpapickgkaaS12
import Derived.OwnWalk
namespace Go.Proofs.Ytmjdmpapickgkaa
open Go.RowKit Go.Kk Go.Sort

theorem cmpOk_of (p : List Opn) (base : Option Addr) (cp C G : Nat) (wb w0 : World) (hb : Below wb.heap.size wb w0) (hG : wb.heap.size ≤ G) (hl : IsProg wb (.slice base p.length cp) p) (hC : wb.cell? ⟨C, 0, none⟩ = some (.slice base p.length cp)) (hlen : Narrow p) : CmpOk w0 G C p.length (timeOf p) := by
  intro w x y hf hx hy
  have h2 : Below wb.heap.size wb w := hb.trans (hf.below hb.size (fun k hk => by omega))
  exact closure65 p base cp C w (hl.keeps (Keeps.of_below h2)) (Keeps.of_below h2 _ _ hC) hlen x y hx hy

theorem arr_of_made {w : World} {B g n : Nat} {xs : List Value} (h : w.ownsRow B 3 1 (.slice (some ⟨g, 0, none⟩) n n) n xs) (hx : xs = (Array.replicate n (Value.int .i64 0)).toList) : B ≤ g ∧ Arr w g (Array.replicate n 0) := by
  obtain ⟨hl, ⟨h0, _⟩ | ⟨g', cap, cur, hv, hb, hg, hnc, hcm, hs, ht⟩⟩ := h
  · cases h0
  · injection hv with h1 _ h3
    injection h1 with h1
    injection h1 with h1
    subst h1 h3
    refine ⟨hb, ?_⟩
    unfold Arr
    rw [hg]
    have : cur = (Array.replicate n (0 : Nat)).map fun (x : Nat) => Value.int .i64 (x : Int) := by
      apply Array.toList_inj.1
      rw [List.take_of_length_le (by simp [hs])] at ht
      rw [ht, hx]
      simp
    rw [this]

/-- the places, in order of time -/
structure Order (p : List Opn) (d : Array Nat) : Prop where
  perm : d.toList.Perm (List.range p.length)
  srt : Srt (timeOf p) 0 p.length d

set_option maxHeartbeats 1000000 in
theorem ordered_any (p : List Opn) (v : Value) (w : World) (hl : IsProg w v p) (hlen : Narrow p) (h60 : p.length ≤ 60) :
    Calls Try.prog 51 #[v] w fun e w' => ∃ G d, e = .returned (rowV G p.length) ∧ w.heap.size ≤ G ∧ Arr w' G d ∧ Order p d ∧ Below w.heap.size w w' := by
  obtain ⟨bs, cq, hval⟩ := hl.1.shape
  subst hval
  obtain ⟨i0, hi, hz0, hz1, hz2⟩ := info_parts (show (Try.prog.info? 3).map (fun i => (i.zero, i.size, i.bytes)) = some (some (.int .i64 0), 1, 8) by kernel_rfl)
  have hu : Try.prog.underlying 25 = some (.slice 3) := by kernel_rfl
  have HL := Lib.hid hl
  clear hl
  go_enter Try.func51, Try.ntmps51
  go_wp2_with (first | (at_make; refine wpList_make_full _ rfl _ _ 25 rfl (w.heap.size + 1) 3 i0 (.int .i64 0) 1 hu hi hz0 hz1 .i64 .i64 _ _ p.length rfl rfl rfl rfl (by rw [hz2]; omega) (by unfold maxLen; omega) (by simp) ?_; intro w1 hown hgrow))
  obtain ⟨hG, hA0⟩ := arr_of_made hown (by simp only [madeCells, Value.cells]; apply List.ext_getElem <;> simp [Nat.mod_one])
  have hS : Hid (SX w1 w1 (w.heap.size + 1) (Array.replicate p.length 0)) := Lib.hid ⟨by simpa using hA0, Fr.refl _ _⟩
  have hbw : Below w.heap.size w w1 := (below_alloc w (.cells #[.slice bs p.length cq] 22)).grown hgrow (by simp) (by simp)
  have hsz1 : w.heap.size + 1 ≤ w1.heap.size := by have := hgrow.size; simpa using this
  have hC := Lib.hid (cmpOk_of p bs cq w.heap.size (w.heap.size + 1) (w.alloc (.cells #[.slice bs p.length cq] 22)) w1 ((Below.refl _ _).grown hgrow (Nat.le_refl _) (by simp)) (by simp) (HL.out.keeps (Keeps.of_below (below_alloc w _))) (newA w _ _ _ 0 _ rfl rfl) hlen)
  clear hown hgrow hG hA0
  go_loopw [10] (fun i wr => ∃ (k : Nat) (dk : Array Nat), k ≤ p.length ∧ i = .int .i64 k ∧ dk.size = p.length ∧ Hid (SX w1 wr (w.heap.size + 1) dk) ∧ Hid (∀ j, j < k → dk[j]! = j)) (fun i _ => p.length - (intOf i).toNat)
  case atStart => exact ⟨0, _, by omega, rfl, by simp, hS, Lib.hid fun j hj => by omega⟩
  case round =>
    clear hS
    obtain ⟨k, dk, hk, rfl, hsz, HS, HV⟩ := hrel
    by_cases hlt : k < p.length
    · have S := HS.out
      have c1 := S.c k (by omega)
      have f1 := S.f k
      have S2 := Lib.hid (S.set k k)
      have V2 : Hid (∀ j, j < k + 1 → (dk.setIfInBounds k k)[j]! = j) := Lib.hid fun j hj => by
        by_cases e : j = k
        · subst e; simp [hsz, hlt]
        · have := HV.out j (by omega)
          simp only [getElem!_def, Array.getElem?_setIfInBounds] at this ⊢
          rw [if_neg (by omega)]
          exact this
      have hsz2 : (dk.setIfInBounds k k).size = p.length := by simpa using hsz
      clear S HS HV hsz
      go_wp2
      go_roundw
      case rel => exact ⟨k + 1, _, by omega, by go_num, hsz2, S2, V2⟩
      case measure => simp [intOf]; omega
    · obtain rfl : k = p.length := by omega
      have hall : Hid (AllLt dk p.length) := Lib.hid fun i hi => by rw [HV.out i (by omega)]; omega
      have HZ := Lib.hid hsz
      clear hsz
      go_wp2_with (first | (go_at_call 64; refine (sortStable_any p.length HS.out hC.out hall.out HZ.out h60).mono ?_; rintro e w2 ⟨rfl, d', hS', hM⟩))
      go_ret
      have hd' : d'.size = p.length := hM.perm.1.trans HZ.out
      have hdk : dk.toList = List.range p.length := by
        apply List.ext_getElem
        · simp [HZ.out]
        · intro i h1 h2
          have := HV.out i (by simpa using h2)
          have h3 : i < dk.size := by simpa using h1
          simp only [h3, getElem!_pos] at this
          simpa using this
      refine ⟨w.heap.size + 1, d', rfl, by omega, hS'.arr, ⟨?_, hM.srt⟩, ?_⟩
      · have := hM.perm.2.2
        rw [← hdk]
        have h1 : d'.toList.take p.length = d'.toList := List.take_of_length_le (by simp [hd'])
        have h2 : dk.toList.take p.length = dk.toList := List.take_of_length_le (by simp [HZ.out])
        simpa [h1, h2] using this
      · exact hbw.trans (hS'.fr.below hbw.size (fun k hk => by omega))
end Go.Proofs.Ytmjdmpapickgkaa
