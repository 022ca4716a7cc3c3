import Derived.Test.YtmjdmpapickgkaaProg
import Derived.Test.YtmjdmpapickgkaaK
namespace Go.Proofs.Ytmjdmpapickgkaa
open Go.RowKit Go.Kk

/-- a source of an operation -/
structure Src where
  op : Int
  val : Int
  hops : Int
deriving DecidableEq
/-- an operation; h is the slice value of its sources -/
structure Opn where
  time : Int
  c0 : Int
  c1 : Int
  unit : Int
  kind : Int
  h : Value
  src : List Src

def Src.cells (s : Src) : List Value := [.int .i64 s.op, .int .i64 s.val, .int .i64 s.hops]
def Src.v (s : Src) : Value := .agg #[.int .i64 s.op, .int .i64 s.val, .int .i64 s.hops]
def Opn.cells (o : Opn) : List Value := [.int .i64 o.time, .int .i64 o.c0, .int .i64 o.c1, .int .i64 o.unit, .int .i64 o.kind, o.h]
def Opn.v (o : Opn) : Value := .agg #[.int .i64 o.time, .int .i64 o.c0, .int .i64 o.c1, .int .i64 o.unit, .int .i64 o.kind, o.h]
def srcCells (l : List Src) : List Value := l.flatMap Src.cells
def opCells (p : List Opn) : List Value := p.flatMap Opn.cells

/-- v reads as the sources l -/
def IsSrcs (w : World) (v : Value) (l : List Src) : Prop := Sl w 3 v l.length (srcCells l)
/-- v reads as the program p -/
def IsProg (w : World) (v : Value) (p : List Opn) : Prop := Sl w 6 v p.length (opCells p) ∧ ∀ o ∈ p, IsSrcs w o.h o.src
/-- v reads as the ints l -/
def I64 (l : List Int) : List Value := l.map (.int .i64 ·)
def IsInts (w : World) (v : Value) (l : List Int) : Prop := Sl w 1 v l.length (I64 l)

theorem IsSrcs.keeps {w w' : World} {v : Value} {l : List Src} (h : IsSrcs w v l) (k : Keeps w w') : IsSrcs w' v l := Sl.keeps h k
theorem IsProg.keeps {w w' : World} {v : Value} {p : List Opn} (h : IsProg w v p) (k : Keeps w w') : IsProg w' v p := ⟨h.1.keeps k, fun o ho => (h.2 o ho).keeps k⟩
theorem IsInts.keeps {w w' : World} {v : Value} {l : List Int} (h : IsInts w v l) (k : Keeps w w') : IsInts w' v l := Sl.keeps h k

theorem flatMap_get {α : Type} {β : Type} (f : α → List β) (k : Nat) (l : List α) (hf : ∀ x ∈ l, (f x).length = k) (i : Nat) (hi : i < l.length) (j : Nat) (hj : j < k) :
    (l.flatMap f)[i * k + j]? = (f l[i])[j]? := by
  induction l generalizing i with
  | nil => simp at hi
  | cons a l ih =>
    have ha := hf a (by simp)
    rw [List.flatMap_cons]
    cases i with
    | zero => simp only [Nat.zero_mul, Nat.zero_add]; rw [List.getElem?_append_left (by omega)]; rfl
    | succ i =>
      rw [List.getElem?_append_right (by rw [ha, Nat.succ_mul]; omega), ha, show (i + 1) * k + j - k = i * k + j by rw [Nat.succ_mul]; omega]
      rw [ih (fun x hx => hf x (by simp [hx])) i (by simpa using hi)]
      rfl
theorem srcCells_get (l : List Src) (i : Nat) (hi : i < l.length) (j : Nat) (hj : j < 3) : (srcCells l)[i * 3 + j]? = (l[i].cells)[j]? := flatMap_get _ 3 l (fun _ _ => rfl) i hi j hj
theorem opCells_get (p : List Opn) (i : Nat) (hi : i < p.length) (j : Nat) (hj : j < 6) : (opCells p)[i * 6 + j]? = (p[i].cells)[j]? := flatMap_get _ 6 p (fun _ _ => rfl) i hi j hj
theorem I64_get (l : List Int) (i : Nat) (hi : i < l.length) : (I64 l)[i]? = some (.int .i64 l[i]) := by simp [I64, hi]

/-- the block and offset of a row that is not empty -/
theorem Sl.at {w : World} {sz n : Nat} {v : Value} {xs : List Value} (h : Sl w sz v n xs) (hn : 0 < n) : ∃ b off cap, v = .slice (some ⟨b, off, none⟩) n cap ∧ n ≤ cap ∧ Cells w b off xs := by
  rcases h.2 with ⟨_, h0⟩ | h | ⟨_, _, _, h0⟩
  · omega
  · exact h
  · omega

/-- low ≤ n ≤ high -/
def bt (lo n hi : Int) : Bool := decide (lo ≤ n) && decide (n ≤ hi)

set_option maxHeartbeats 400000 in
theorem within_any (lo n hi : Int) (w : World) : Calls Try.prog 39 #[.int .i64 lo, .int .i64 n, .int .i64 hi] w fun e w' => e = .returned (.bool (bt lo n hi)) ∧ w' = w := by
  by_cases h : lo ≤ n
  · go_enter Try.func39, Try.ntmps39
    go_wp2
    go_ret
    simp [bt, h]
  · go_enter Try.func39, Try.ntmps39
    go_wp2
    go_ret
    simp [bt]; omega

set_option maxHeartbeats 400000 in
theorem between_any (lo n hi : Int) (w : World) : Calls Try.prog 48 #[.int .i64 lo, .int .i64 n, .int .i64 hi] w fun e w' => e = .returned (.bool (bt lo n hi)) ∧ w' = w := by
  by_cases h : lo ≤ n
  · go_enter Try.func48, Try.ntmps48
    go_wp2
    go_ret
    simp [bt, h]
  · go_enter Try.func48, Try.ntmps48
    go_wp2
    go_ret
    simp [bt]; omega

/-- how many values a kind needs -/
def need (k : Int) : Int := if k = 1 then 1 else if k = 2 ∨ k = 3 ∨ k = 4 ∨ k = 6 ∨ k = 7 then 2 else if k = 5 then 3 else 0
/-- what makes of them -/
def doesV (k : Int) : Value := if k = 1 then .func (.func 68) #[] #[] else if k = 2 then .func (.func 69) #[] #[] else if k = 3 then .func (.func 70) #[] #[] else if k = 4 then .func (.func 71) #[] #[] else if k = 5 then .func (.func 72) #[] #[] else if k = 6 then .func (.func 73) #[] #[] else if k = 7 then .func (.func 74) #[] #[] else .nilFunc

set_option maxHeartbeats 400000 in
theorem Needs_any (k : Int) (w : World) : Calls Try.prog 40 #[.int .i64 k] w fun e w' => e = .returned (.int .i64 (need k)) ∧ w' = w := by
  go_enter Try.func40, Try.ntmps40
  go_wp2
  all_goals
    go_ret
    simp_all [need]
end Go.Proofs.Ytmjdmpapickgkaa
