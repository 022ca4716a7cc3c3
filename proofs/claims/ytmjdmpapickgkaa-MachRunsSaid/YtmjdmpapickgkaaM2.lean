import Derived.Test.YtmjdmpapickgkaaN1
namespace Go.Proofs.Ytmjdmpapickgkaa
open Go.RowKit Go.Kk Go.WideMaps

theorem laidOutT : laidOutB Try.prog = true := by kernel_rfl
theorem lawM : KeyLaw Try.prog 69 := deep_law_laid laidOutT (m := 4) (by omega) (of_decide_eq_true (by kernel_rfl)) (by kernel_rfl) (by rw [show Try.prog.underlying 69 = _ from Try.underlying69])
theorem lawR : KeyLaw Try.prog 77 := deep_law_laid laidOutT (m := 4) (by omega) (of_decide_eq_true (by kernel_rfl)) (by kernel_rfl) (by rw [show Try.prog.underlying 77 = _ from Try.underlying77])
theorem zero25 (u : World) : (zeroValue 25).run Try.prog u = .ok (.slice none 0 0) u := by kernel_rfl
theorem slT25 : SlT Try.prog 25 3 1 8 (.int .i64 0) := by
  obtain ⟨i0, hi, hz0, hz1, hz2⟩ := info_parts (show (Try.prog.info? 3).map (fun i => (i.zero, i.size, i.bytes)) = some (some (.int .i64 0), 1, 8) by kernel_rfl)
  exact ⟨by kernel_rfl, ⟨i0, hi, hz0, hz1, hz2⟩, by rfl, by omega⟩
theorem wf64 {n : Int} (h : -9223372036854775808 ≤ n ∧ n ≤ 9223372036854775807) : (Lit.int .i64 n).wf = true := WalkArith.wf_i64 (by omega)
theorem lits3 (m : Nat) (n : Int) (h : (Lit.int .i64 n).wf = true) : Try.prog.keyLits (m + 1) 3 [.int .i64 n] = some [.int .i64 n] := by
  simp [Program.keyLits, show Try.prog.underlying 3 = some (.int .i64) from Try.underlying3, h]
theorem lits34 (m : Nat) (a b : Int) (ha : (Lit.int .i64 a).wf = true) (hb : (Lit.int .i64 b).wf = true) : Try.prog.keyLits (m + 2) 34 [.int .i64 a, .int .i64 b] = some [.int .i64 a, .int .i64 b] := by
  unfold Program.keyLits
  rw [show Try.prog.underlying 34 = some (.array 2 3) by kernel_rfl]
  simp [show Try.prog.cellsOf 34 = 2 by kernel_rfl, show Try.prog.cellsOf 3 = 1 by kernel_rfl, List.range_succ, lits3 m a ha, lits3 m b hb]

theorem keyOfM (o : Opn) (n : Nat) (h : OpOk n o) : ∃ kl, keyOf Try.prog 69 (keyM o) = some kl := by
  obtain ⟨t, c0, c1, u, k, hh, src⟩ := o
  have h1 := h.t; have h2 := h.x; have h3 := h.y; have h4 := h.u
  simp only at h1 h2 h3 h4
  have w1 := wf64 (n := t) (by omega)
  have w2 := wf64 (n := c0) (by omega)
  have w3 := wf64 (n := c1) (by omega)
  have w4 := wf64 (n := u) (by omega)
  have hk : Try.prog.keyType 69 = true := by kernel_rfl
  have hsz : ∃ m, Try.prog.types.size + 1 = m + 4 := ⟨Try.prog.types.size - 3, by have : 4 ≤ Try.prog.types.size := of_decide_eq_true (by kernel_rfl); omega⟩
  obtain ⟨m, hm⟩ := hsz
  have hf : (keyM ⟨t, c0, c1, u, k, hh, src⟩).formed Try.prog 69 = true := by
    simp [keyM, Value.formed, Try.underlying69]
    kernel_rfl
  unfold keyOf
  rw [Try.underlying69]
  simp only [hk, hf, Bool.and_self, if_true, hm]
  have h69 : Try.prog.keyLits (m + 4) 69 (keyM ⟨t, c0, c1, u, k, hh, src⟩).cells.toList = some [.int .i64 t, .int .i64 c0, .int .i64 c1, .int .i64 u] := by
    unfold Program.keyLits
    rw [Try.underlying69]
    simp [keyM, Value.cells, show Try.prog.cellsOf 69 = 4 by kernel_rfl, show Try.prog.cellsOf 34 = 2 by kernel_rfl, show Try.prog.cellsOf 3 = 1 by kernel_rfl, lits3 (m + 2) t w1, lits34 (m + 1) c0 c1 w2 w3, lits3 (m + 2) u w4]
  rw [h69]
  exact ⟨_, rfl⟩
theorem keyOfR (o : Opn) (n : Nat) (h : OpOk n o) : ∃ kl, keyOf Try.prog 77 (keyR o) = some kl := by
  obtain ⟨t, c0, c1, u, k, hh, src⟩ := o
  have h1 := h.t; have h2 := h.x; have h3 := h.y; have h4 := h.u
  simp only at h1 h2 h3 h4
  have w1 := wf64 (n := t) (by omega)
  have w2 := wf64 (n := c0) (by omega)
  have w3 := wf64 (n := c1) (by omega)
  have w4 := wf64 (n := u) (by omega)
  have hk : Try.prog.keyType 77 = true := by kernel_rfl
  have hsz : ∃ m, Try.prog.types.size + 1 = m + 4 := ⟨Try.prog.types.size - 3, by have : 4 ≤ Try.prog.types.size := of_decide_eq_true (by kernel_rfl); omega⟩
  obtain ⟨m, hm⟩ := hsz
  have hf : (keyR ⟨t, c0, c1, u, k, hh, src⟩).formed Try.prog 77 = true := by
    simp [keyR, Value.formed, Try.underlying77]
    kernel_rfl
  unfold keyOf
  rw [Try.underlying77]
  simp only [hk, hf, Bool.and_self, if_true, hm]
  have h77 : Try.prog.keyLits (m + 4) 77 (keyR ⟨t, c0, c1, u, k, hh, src⟩).cells.toList = some [.int .i64 t, .int .i64 u, .int .i64 c0, .int .i64 c1] := by
    unfold Program.keyLits
    rw [Try.underlying77]
    simp [keyR, Value.cells, show Try.prog.cellsOf 77 = 4 by kernel_rfl, show Try.prog.cellsOf 34 = 2 by kernel_rfl, show Try.prog.cellsOf 3 = 1 by kernel_rfl, lits3 (m + 2) t w1, lits34 (m + 1) c0 c1 w2 w3, lits3 (m + 2) u w4]
  rw [h77]
  exact ⟨_, rfl⟩
end Go.Proofs.Ytmjdmpapickgkaa
