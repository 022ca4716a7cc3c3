import Derived.Test.YtmjdmpapickgkaaS8
namespace Go.Proofs.Ytmjdmpapickgkaa
open Go.RowKit Go.Kk Go.Sort
variable {w0 w : World} {G C n : Nat} {d : Array Nat} {T : Nat → Int}

theorem symBelow (hc : CmpOk w0 G C n T) (N : Nat) (hs : N ≤ 1000000) : ∀ k, SymBelow w0 G C n N T k
  | 0 => fun _ _ _ _ _ h => by omega
  | k + 1 => fun a m b d w hk ham hmb hb hz hS hA h1 h2 => by
    subst hz
    by_cases e1 : m = a + 1
    · subst e1
      exact sym1 a b hS hc hA hmb hb hs h2
    · by_cases e2 : b = m + 1
      · subst e2
        exact sym2 a m hS hc hA (by omega) hb hs h1
      · have ih : SymBelow w0 G C n d.size T (b - a) := fun a' m' b' d' w' hk' => symBelow hc d.size hs k a' m' b' d' w' (by omega)
        by_cases hM : (a + b) / 2 < m
        · exact sym3a a m b ((a + b) / 2) hS hc hA (by omega) (by omega) hb hs h1 h2 (by omega) (by omega) hM ih
        · exact sym3b a m b ((a + b) / 2) hS hc hA (by omega) (by omega) hb hs h1 h2 (by omega) (by omega) hM ih
theorem symMerge_any (hc : CmpOk w0 G C n T) (N a m b : Nat) (d : Array Nat) (hs : N ≤ 1000000) (ham : a < m) (hmb : m < b) (hb : b ≤ N) (hz : d.size = N) (hS : SX w0 w G d) (hA : AllLt d n) (h1 : Srt T a m d) (h2 : Srt T m b d) :
    Calls Try.prog 79 #[rowV G N, .int .i64 a, .int .i64 m, .int .i64 b, cmpV C] w fun e w' => e = .returned (.tuple #[]) ∧ ∃ d', SX w0 w' G d' ∧ Merged T a b d d' :=
  symBelow hc N hs (b - a + 1) a m b d w (by omega) ham hmb hb hz hS hA h1 h2
end Go.Proofs.Ytmjdmpapickgkaa
