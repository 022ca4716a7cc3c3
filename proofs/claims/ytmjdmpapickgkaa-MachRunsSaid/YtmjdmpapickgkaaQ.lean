import Derived.Test.YtmjdmpapickgkaaE
import Derived.ChangeKeysEq
namespace Go.Proofs.Ytmjdmpapickgkaa
open Go.RowKit Go.Kk

@[go_sem] theorem eq34 (w : World) (a b : Int) : (Op.equalIn 10000 34 (.agg #[.int .i64 a, .int .i64 b]) (.agg #[.int .i64 a, .int .i64 b])).run Try.prog w = .ok true w := by
  obtain ⟨i, hi, h0, h1, h2⟩ := info_parts (show (Try.prog.info? 3).map (fun i => (i.zero, i.size, i.bytes)) = some (some (.int .i64 0), 1, 8) by kernel_rfl)
  have hc : Try.prog.cellsOf 3 = 1 := by kernel_rfl
  have h3 : Try.prog.underlying 3 = some (.int .i64) := by kernel_rfl
  rw [run_equalIn_array w 9999 _ _ (show Try.prog.underlying 34 = some (.array 2 3) by kernel_rfl) hi, hc]
  simp [Op.eqItems, List.range_succ, run_equalIn_int _ 9998 3 .i64 .i64 _ _ h3, go_sem]
  done
end Go.Proofs.Ytmjdmpapickgkaa
