import Derived.Test.YtlelbkljhbkjdaaE2
import Derived.Test.YtlelbkljhbkjdaaRows
import Derived.WalkKit
import Derived.ProofKit
import Derived.OpenShut
import Derived.ShutString
import Derived.ChangeOld
import Derived.Below
import Derived.Deep.Slices
namespace Go.Proofs.Ytlelbkljhbkjdaa
open Go.ChangeShapes Go.WideShapes Go.ChangeAt Go.RowKit Go.Kk

theorem wf_i64 {n : Int} (h : (Lit.int .i64 n).wf = true) : -9223372036854775808 ≤ n ∧ n ≤ 9223372036854775807 := by
  simpa [Lit.wf, IntKind.min, IntKind.max, IntKind.signed, IntKind.bits] using h
theorem wf_u8 {n : Int} (h : (Lit.int .u8 n).wf = true) : 0 ≤ n ∧ n ≤ 255 := by
  simpa [Lit.wf, IntKind.min, IntKind.max, IntKind.signed, IntKind.bits] using h

section
variable {H : Type} {enc : TypeId × Value → H} {w : World} {base : Nat} {spare : Nat → Bool} {held : Bool}

theorem plain_add {b off : Nat} (j : Nat) : (⟨b, off, none⟩ : Addr).add j = ⟨b, off + j, none⟩ := by unfold Addr.add; split <;> simp_all

/-- a slice of bytes that came in -/
theorem open_bytes {fuel : Nat} {v : Value} {x : DataW H × List MemPlace} (h : DataW.trod enc Try.prog w base spare held fuel 27 [v] = some x) :
    ∃ bs : List UInt8, Sl w 1 v bs.length (B8 bs) := by
  rcases Go.Deep.open_slice1 (show Try.prog.underlying 27 = some (.slice 5) by kernel_rfl) (by kernel_rfl) h with ⟨hcs, _⟩ | ⟨a, len, cap, m, n, V, D, Pl, hcs, _, hl, hm, hmm, _, hx⟩
  · obtain rfl : v = .slice none 0 0 := by simpa using hcs
    exact ⟨[], ⟨rfl, .inl ⟨rfl, rfl⟩⟩⟩
  · obtain rfl : v = .slice (some a) len cap := by simpa using hcs
    have hlm : len ≤ m := by rw [hmm]; split <;> omega
    have hV : ∀ i, i < len → ∃ c : UInt8, V i = .int .u8 c.toNat := by
      intro i hi
      obtain ⟨n', hv, _, hwf⟩ := DataW.trod_int (show Try.prog.underlying 5 = some (.int .u8) by kernel_rfl) (hx i (by omega)).2
      have := wf_u8 hwf
      refine ⟨UInt8.ofNat n'.toNat, ?_⟩
      have hv' : V i = .int .u8 n' := by simpa using hv
      rw [hv']
      congr 1
      rw [UInt8.toNat_ofNat']
      omega
    obtain ⟨f, hf⟩ := Go.Deep.choose_lt (α := UInt8) (p := fun i c => V i = .int .u8 c.toNat) hV
    refine ⟨(List.range len).map f, by rw [B8_length, List.length_map, List.length_range]; omega, ?_⟩
    obtain ⟨b, off, spot⟩ := a
    rw [List.length_map, List.length_range]
    by_cases h0 : len = 0
    · subst h0
      cases spot with
      | none => exact .inr (.inl ⟨b, off, cap, rfl, hl, fun j u hu => by simp [B8] at hu⟩)
      | some s => exact .inr (.inr ⟨_, _, rfl, rfl⟩)
    · have hc := (hx 0 (by omega)).1
      have hspot : spot = none := by simpa [Addr.add] using World.cell?_spot hc
      subst hspot
      refine .inr (.inl ⟨b, off, cap, rfl, hl, fun j u hu => ?_⟩)
      have hj : j < len := by
        rcases Nat.lt_or_ge j len with h | h
        · exact h
        · rw [List.getElem?_eq_none (by simp [B8]; omega)] at hu; cases hu
      have := (hx j (by omega)).1
      rw [plain_add, hf j hj] at this
      simp [B8, hj] at hu
      rw [this, hu]
end
end Go.Proofs.Ytlelbkljhbkjdaa
