import Derived.Test.YtlelbkljhbkjdaaC7
import Derived.Test.YtlelbkljhbkjdaaC5
namespace Go.Proofs.Ytlelbkljhbkjdaa
open Go.RowKit Go.Kk

/-- a string of bytes -/
def str (bs : List UInt8) : Value := .string ⟨bs.toArray⟩

theorem run_str {w : World} {v : Value} {bs : List UInt8} (h : Sb w v bs) : (convert 27 9 v).run Try.prog w = .ok (str bs) w := by
  rcases h with ⟨rfl, rfl⟩ | ⟨g, off, cap, c, fr, rfl, hc, hg, hx⟩
  · exact run_convert_bytes_nil w 27 5 (by kernel_rfl) (by kernel_rfl) 0 0 9 (by kernel_rfl)
  · have h1 := run_convert_bytes_arg (P := Try.prog) w 27 5 (by kernel_rfl) (by kernel_rfl) g off bs.length cap (bs.map fun b => (b.toNat : Int)) (by simp) (by
      intro i hi
      have hb : (B8 bs)[i]? = some (.int .u8 bs[i].toNat) := by simp [B8, List.getElem?_eq_getElem hi]
      have := cell_of_heap hg (hx i _ hb)
      rw [this]
      simp [List.getD, List.getElem?_eq_getElem hi]) 9 (by kernel_rfl)
    rw [h1]
    unfold str strOfNums
    congr 3
    apply congrArg
    rw [List.map_map]
    conv => rhs; rw [← List.map_id bs]
    apply List.map_congr_left
    intro a _
    simp

theorem run_strs {w : World} {v1 v2 : Value} {bs : List UInt8} (h1 : Sb w v1 bs) (h2 : Sb w v2 bs) :
    ∃ s : ByteArray, (convert 27 9 v1).run Try.prog w = .ok (.string s) w ∧ (convert 27 9 v2).run Try.prog w = .ok (.string s) w := ⟨_, run_str h1, run_str h2⟩

set_option maxHeartbeats 1000000 in
theorem disks_any {w : World} {R D M : Nat} {S : St} (h : RackIs w R D S) (hm : RefIs w M S) :
    Calls Try.prog 22 #[.pointer (some ⟨R, 0, none⟩), .pointer (some ⟨M, 0, none⟩)] w fun e w' => e = .returned (.bool true) ∧ Below w.heap.size w w' := by
  go_enter Try.func22, Try.ntmps22
  go_wp2
  go_loopw [5] (fun i wr => ∃ d : Int, -1 ≤ d ∧ d ≤ 4 ∧ i = .int .i64 d ∧ Below w.heap.size w wr) (fun i _ => (4 - intOf i).toNat)
  case atStart => exact ⟨-1, by omega, by omega, rfl, Below.refl _ _⟩
  case round =>
    obtain ⟨d, hd1, hd2, rfl, hb⟩ := hrel
    by_cases hlt : d ≤ 3
    · have hr := h.below hb
      have hm1 := hm.below hb
      go_wp2_with (first | (go_at_call 34; refine (read_any hr d).mono ?_; rintro e w1 ⟨v1, rfl, hs1, hb1⟩; have hm2 := hm1.below hb1) | (go_at_call 35; refine (rread_any hm2 d).mono ?_; rintro e w2 ⟨v2, rfl, hs2, rfl⟩; obtain ⟨sv, e1, e2⟩ := run_strs hs1 hs2; clear hs1 hs2))
      have hbb := hb.trans (hb1.mono hb.size)
      go_roundw
      case rel => exact ⟨d + 1, by omega, by omega, rfl, hbb⟩
      case measure => simp [intOf]; omega
    · go_wp2
      go_ret
      exact ⟨rfl, hb⟩
end Go.Proofs.Ytlelbkljhbkjdaa
