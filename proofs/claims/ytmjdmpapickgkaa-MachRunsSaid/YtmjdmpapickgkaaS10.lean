import Derived.Test.YtmjdmpapickgkaaS9
namespace Go.Proofs.Ytmjdmpapickgkaa
open Go.RowKit Go.Kk Go.Sort
variable {w0 w : World} {G C n : Nat} {d : Array Nat} {T : Nat → Int}

/-- blocks of s sorted -/
def Blk (T : Nat → Int) (s n : Nat) (d : Array Nat) : Prop := ∀ i, Srt T (s * i) (min (s * i + s) n) d
theorem Srt.perm_out {T : Nat → Int} {a b lo hi : Nat} {d d' : Array Nat} (h : Srt T a b d) (hp : PermIn lo hi d d') (ho : b ≤ lo ∨ hi ≤ a) : Srt T a b d' :=
  h.congr fun x h1 h2 => hp.2.1 x (by omega)
theorem insertion_s (a b N : Nat) (h : SX w0 w G d) (hc : CmpOk w0 G C n T) (hall : AllLt d n) (hN : d.size = N) (hab : a ≤ b) (hb : b ≤ N) (hs : N ≤ 1000000) :
    Calls Try.prog 78 #[rowV G N, .int .i64 a, .int .i64 b, cmpV C] w fun e w' => e = .returned (.tuple #[]) ∧ ∃ d', SX w0 w' G d' ∧ Merged T a b d d' := by
  subst hN
  refine (insertion_any a b h hc hall hab hb hs).mono ?_
  rintro e w' ⟨he, hS⟩
  have := insertionSort_holds (lt := ltT T) (swoT T) d a b hab hb
  exact ⟨he, _, hS, this.1, Srt.of_sorted this.2⟩
end Go.Proofs.Ytmjdmpapickgkaa
