import Derived.Test.YtmjdmpapickgkaaZd
import Derived.Test.YtmjdmpapickgkaaZc
import Derived.Test.YtmjdmpapickgkaaZ7
namespace Go.Proofs.Ytmjdmpapickgkaa
open Go.RowKit Go.Kk

theorem OwnP.time {w : World} {B g cap n : Nat} {q : List Opn} (h : OwnP w B (.slice (some ⟨g, 0, none⟩) n cap) q) (hn : q.length = n) (i : Nat) (hi : i < q.length) (t' : Int) :
    w.cell? ⟨g, i * 6, none⟩ = some (.int .i64 q[i].time) ∧ w.frozen? ⟨g, i * 6, none⟩ = false ∧ OwnP (w.setCell ⟨g, i * 6, none⟩ (.int .i64 t')) B (.slice (some ⟨g, 0, none⟩) n cap) (q.set i { q[i] with time := t' }) := by
  subst hn
  refine ⟨own_cell h.row (i * 6) _ (by have := opCells_get q i hi 0 (by omega); rw [Nat.add_zero] at this; rw [this]; rfl), own_frozen h.row _, ?_⟩
  have := h.set i hi 0 (by omega) (.int .i64 t') { q[i] with time := t' } rfl (fun w1 h1 => h.src q[i] (List.getElem_mem _) w1 (((Fr.refl (fun k => (Value.slice (some ⟨g, 0, none⟩) q.length cap).ownBlock = some k) w).setCell (a := ⟨g, i * 6, none⟩) rfl _).trans (h1.mono fun k hk => by simp [Value.ownBlock]; omega)))
  rwa [Nat.add_zero] at this

/-- q is like f, up to where its sources lie -/
structure Like (n : Nat) (f : Nat → Opn) (q : List Opn) : Prop where
  len : q.length = n
  at' : ∀ i (h : i < q.length), q[i].bare = (f i).bare
theorem Like.of_map {p q : List Opn} (h : q.map Opn.bare = p.map Opn.bare) : Like p.length (opn p) q := by
  have hl : q.length = p.length := by simpa using congrArg List.length h
  refine ⟨hl, fun i hi => ?_⟩
  have := congrArg (fun l => l[i]?) h
  rw [opn_eq (by omega)]
  simpa [hi, show i < p.length by omega] using this
theorem Like.same {n : Nat} {f : Nat → Opn} {q q' : List Opn} (h : Like n f q) (h' : Like n f q') : q.map Opn.bare = q'.map Opn.bare := by
  have e1 := h.len
  have e2 := h'.len
  apply List.ext_getElem
  · simp [e1, e2]
  · intro i h1 h2
    have l1 : i < q.length := by simpa using h1
    have l2 : i < q'.length := by simpa using h2
    simp only [List.getElem_map]
    rw [h.at' i l1, h'.at' i l2]
/-- the time of one operation changed -/
theorem Like.time {n : Nat} {f f' : Nat → Opn} {q : List Opn} (h : Like n f q) (k : Nat) (hk : k < q.length) (t' : Int) (hf : f' k = { f k with time := t' }) (ho : ∀ i, i ≠ k → f' i = f i) : Like n f' (q.set k { q[k] with time := t' }) := by
  refine ⟨by rw [List.length_set]; exact h.len, fun i hi => ?_⟩
  have hi' : i < q.length := by simpa using hi
  by_cases e : k = i
  · subst e
    rw [List.getElem_set_self, hf]
    have := bare_time (h.at' k hk)
    obtain ⟨_, b1, b2, b3, b4, b5⟩ := this
    simp [Opn.bare, b1, b2, b3, b4, b5]
  · rw [List.getElem_set_ne e, ho i (fun x => e x.symm)]
    exact h.at' i hi'

/-! Shift -/
def shiftO (by' : Int) (o : Opn) : Opn := { o with time := o.time + by' }
/-- the first k operations shifted -/
def shiftTo (p : List Opn) (by' : Int) (k i : Nat) : Opn := if i < k then shiftO by' (opn p i) else opn p i
theorem shiftTo_same (p : List Opn) (by' : Int) (k : Nat) : shiftTo p by' (k + 1) k = { shiftTo p by' k k with time := (opn p k).time + by' } := by simp [shiftTo, shiftO]
theorem shiftTo_other (p : List Opn) (by' : Int) (k : Nat) : ∀ i, i ≠ k → shiftTo p by' (k + 1) i = shiftTo p by' k i := by
  intro i hi
  unfold shiftTo
  by_cases h : i < k
  · rw [if_pos h, if_pos (by omega)]
  · rw [if_neg h, if_neg (by omega)]
theorem shiftTo_zero (p : List Opn) (by' : Int) : shiftTo p by' 0 = opn p := by funext i; simp [shiftTo]

def inRange (p : List Opn) (by' : Int) : Prop := -100000 - mnT p p.length ≤ by' ∧ by' ≤ 100000 - mxT p p.length
def ShiftPost (p : List Opn) (by' : Int) (w : World) (e : Ending) (w' : World) : Prop := ∃ v' q, e = .returned (.tuple #[v', .int .i64 0]) ∧ OwnP w' w.heap.size v' q ∧ Like p.length (shiftTo p by' p.length) q ∧ Below w.heap.size w w'

theorem mn_mx_bd {p : List Opn} (hok : okProg p = true) (hn : 0 < p.length) : -100000 ≤ mnT p p.length ∧ mnT p p.length ≤ mxT p p.length ∧ mxT p p.length ≤ 100000 := by
  obtain ⟨i, hi, e⟩ := mnT_at p p.length p.length (Nat.le_refl _) hn
  obtain ⟨j, hj, e2⟩ := mxT_at p p.length p.length (Nat.le_refl _) hn
  have := timeOf_bd hok i hi
  have := timeOf_bd hok j hj
  have := mxT_ge p p.length i hi
  omega

set_option maxHeartbeats 400000 in
theorem Shift_bad (p : List Opn) (v : Value) (by' : Int) (w : World) (hl : IsProg w v p) (hlen : Narrow p) (hok : okProg p = false) : Calls Try.prog 24 #[v, .int .i64 by'] w (ErrPost 80 w) := by
  have he : spanE p = 80 := by unfold spanE; rw [if_neg (by simp [hok])]
  have HS := Lib.hid (Span_err p v w hl hlen (by rw [he]; omega))
  rw [he] at HS
  clear hl hok he
  unfold SpanPost at HS
  go_enter Try.func24, Try.ntmps24
  go_wp2_with (first | (go_at_call 27; refine HS.out.mono ?_; rintro e w1 ⟨rfl, h1⟩))
  go_ret2
  exact ⟨rfl, h1⟩
set_option maxHeartbeats 400000 in
theorem Shift_none (p : List Opn) (v : Value) (by' : Int) (w : World) (hl : IsProg w v p) (hok : okProg p = true) (hn : p.length = 0) : Calls Try.prog 24 #[v, .int .i64 by'] w (ErrPost 0 w) := by
  have he : spanE p = 5 := by unfold spanE; rw [if_pos hok, if_pos hn]
  have HS := Lib.hid (Span_err p v w hl (okProg_narrow hok) (by rw [he]; omega))
  rw [he] at HS
  clear hl hok he
  unfold SpanPost at HS
  go_enter Try.func24, Try.ntmps24
  go_wp2_with (first | (go_at_call 27; refine HS.out.mono ?_; rintro e w1 ⟨rfl, h1⟩))
  go_ret2
  exact ⟨rfl, h1⟩
set_option maxHeartbeats 400000 in
theorem Shift_arg (p : List Opn) (v : Value) (by' : Int) (w : World) (hl : IsProg w v p) (hok : okProg p = true) (hn : 0 < p.length) (h60 : p.length ≤ 60) (hr : ¬ inRange p by') : Calls Try.prog 24 #[v, .int .i64 by'] w (ErrPost 2 w) := by
  have HS := Lib.hid (Span_ok p v w hl hok hn h60)
  have hbd := mn_mx_bd hok hn
  have hb : bt (-100000 - mnT p p.length) by' (100000 - mxT p p.length) = false := by
    cases h : bt (-100000 - mnT p p.length) by' (100000 - mxT p p.length) with
    | false => rfl
    | true => exact absurd (bt_iff.1 h) hr
  unfold SpanPost at HS
  clear hl hok hr
  generalize mnT p p.length = ma at *
  generalize mxT p p.length = mb at *
  have HB := Lib.hid hb
  clear hb
  go_enter Try.func24, Try.ntmps24
  go_wp2_with (first
    | (go_at_call 27; refine HS.out.mono ?_; rintro e w1 ⟨rfl, h1⟩)
    | (go_at_call 48; refine (between_any _ _ _ _).mono ?_; rintro e w2 ⟨rfl, rfl⟩; rw [HB.out]))
  go_ret2
  exact ⟨rfl, h1⟩

set_option maxRecDepth 100000 in
set_option maxHeartbeats 1000000 in
theorem Shift_ok (p : List Opn) (v : Value) (by' : Int) (w : World) (hl : IsProg w v p) (hok : okProg p = true) (hn : 0 < p.length) (h60 : p.length ≤ 60) (hr : inRange p by') : Calls Try.prog 24 #[v, .int .i64 by'] w (ShiftPost p by' w) := by
  have HS := Lib.hid (Span_ok p v w hl hok hn h60)
  have HC := Lib.hid (fun w1 (hb : Below w.heap.size w w1) => copied_any p v w1 (hl.keeps (Keeps.of_below hb)) (okProg_narrow hok))
  have hbd := mn_mx_bd hok hn
  have hrr : -200000 ≤ by' ∧ by' ≤ 200000 := by unfold inRange at hr; omega
  have HT := Lib.hid (fun k hk => timeOf_bd hok k hk)
  have hb : bt (-100000 - mnT p p.length) by' (100000 - mxT p p.length) = true := bt_iff.2 hr
  unfold SpanPost at HS
  unfold CopyPost at HC
  clear hl hok hr
  generalize mnT p p.length = ma at *
  generalize mxT p p.length = mb at *
  have HB := Lib.hid hb
  clear hb
  go_enter Try.func24, Try.ntmps24
  go_wp2_with (first
    | (go_at_call 27; refine HS.out.mono ?_; rintro e w1 ⟨rfl, h1⟩)
    | (go_at_call 48; refine (between_any _ _ _ _).mono ?_; rintro e w2 ⟨rfl, hw2⟩; subst hw2; rw [HB.out])
    | (go_at_call 49; refine (HC.out _ h1).mono ?_; rintro e w3 ⟨v3, q3, rfl, hO3, hB3, h3⟩; have hL3 := Lib.hid (Like.of_map hB3); obtain ⟨g, cap, hv3, hBg, hgw⟩ := hO3.shape (by rw [hL3.out.len]; exact hn); rw [hL3.out.len] at hv3; subst hv3; have HO3 := Lib.hid hO3; clear hO3 hB3))
  have h3' := h1.trans (h3.mono h1.size)
  have hs1 := h1.size
  have HO3' : Hid (OwnP w3 w.heap.size (.slice (some ⟨g, 0, none⟩) p.length cap) q3) := Lib.hid ⟨own_mono HO3.out.row hs1, HO3.out.src⟩
  clear HO3
  go_loopw [36] (fun vi wr => ∃ (k : Nat) (q : List Opn), k ≤ p.length ∧ vi = .int .i64 k ∧ Hid (Like p.length (shiftTo p by' k) q) ∧ Hid (OwnP wr w.heap.size (.slice (some ⟨g, 0, none⟩) p.length cap) q) ∧ Below w.heap.size w wr) (fun vi _ => p.length - (intOf vi).toNat)
  case atStart => exact ⟨0, q3, by omega, rfl, by rw [shiftTo_zero]; exact hL3, HO3', h3'⟩
  case round =>
    clear HO3' hL3 h3
    obtain ⟨k, q, hk, rfl, HL, HO, hbel⟩ := hrel
    by_cases hlt : k < p.length
    · have hkq : k < q.length := by rw [HL.out.len]; exact hlt
      obtain ⟨c0, f0, hO'⟩ := HO.out.time HL.out.len k hkq ((opn p k).time + by')
      have ht : q[k].time = (opn p k).time := by
        have := (bare_time (HL.out.at' k hkq)).1
        rw [this]; simp [shiftTo]
      rw [ht] at c0
      have HO' := Lib.hid hO'
      have HL' := Lib.hid (HL.out.time k hkq ((opn p k).time + by') (shiftTo_same p by' k) (shiftTo_other p by' k))
      have hbt := HT.out k hlt
      rw [timeOf_opn hlt] at hbt
      clear ht hO' HL HO
      generalize (opn p k).time = t at *
      go_wp2
      go_roundw
      case rel => exact ⟨k + 1, _, by omega, by go_num, HL', HO', hbel.setCell (p := ⟨g, k * 6, none⟩) (by simp; omega) _⟩
      case measure => simp [intOf]; omega
    · obtain rfl : k = p.length := by omega
      go_wp2
      go_ret2
      exact ⟨_, q, rfl, HO.out, HL.out, hbel⟩
end Go.Proofs.Ytmjdmpapickgkaa

namespace Go.Proofs.Ytmjdmpapickgkaa
open Go.RowKit Go.Kk

theorem within2 (lo n hi : Int) (w : World) (b : Bool) (h : bt lo n hi = b) : Calls Try.prog 39 #[.int .i64 lo, .int .i64 n, .int .i64 hi] w fun e w' => e = .returned (.bool b) ∧ w' = w := h ▸ within_any lo n hi w

def RefShiftPost (p : List Opn) (by' : Int) (w : World) (e : Ending) (w' : World) : Prop := (inRange p by' ∧ ShiftPost p by' w e w') ∨ (¬ inRange p by' ∧ ErrPost 2 w e w')

theorem inRange_of {p : List Opn} (hn : 0 < p.length) {by' : Int} (h : ∀ i, i < p.length → -100000 ≤ timeOf p i + by' ∧ timeOf p i + by' ≤ 100000) : inRange p by' := by
  obtain ⟨i, hi, e⟩ := mnT_at p p.length p.length (Nat.le_refl _) hn
  obtain ⟨j, hj, e2⟩ := mxT_at p p.length p.length (Nat.le_refl _) hn
  have := h i hi
  have := h j hj
  unfold inRange
  omega
theorem inRange_at {p : List Opn} {by' : Int} (h : inRange p by') (i : Nat) (hi : i < p.length) : -100000 ≤ timeOf p i + by' ∧ timeOf p i + by' ≤ 100000 := by
  unfold inRange at h
  have := mnT_le p p.length i hi
  have := mxT_ge p p.length i hi
  omega

set_option maxHeartbeats 400000 in
theorem refShift_bad (p : List Opn) (v : Value) (by' : Int) (w : World) (hl : IsProg w v p) (hlen : Narrow p) (hok : okProg p = false) : Calls Try.prog 32 #[v, .int .i64 by'] w (ErrPost 80 w) := by
  have HV := Lib.hid (refValid_any p v w hl hlen)
  rw [hok] at HV
  clear hl hok
  go_enter Try.func32, Try.ntmps32
  go_wp2_with (first | (go_at_call 17; refine HV.out.mono ?_; rintro e w1 ⟨rfl, h1⟩))
  go_ret2
  exact ⟨rfl, h1⟩
set_option maxHeartbeats 400000 in
theorem refShift_none (p : List Opn) (v : Value) (by' : Int) (w : World) (hl : IsProg w v p) (hok : okProg p = true) (hn : p.length = 0) : Calls Try.prog 32 #[v, .int .i64 by'] w (ShiftPost p by' w) := by
  have HV := Lib.hid (refValid_any p v w hl (okProg_narrow hok))
  rw [hok] at HV
  have HC := Lib.hid (fun w1 (hb : Below w.heap.size w w1) => refCopied_any p v w1 (hl.keeps (Keeps.of_below hb)) (okProg_narrow hok))
  unfold CopySPost at HC
  have HN := Lib.hid hn
  clear hl hok hn
  go_enter Try.func32, Try.ntmps32
  go_wp2_with (first
    | (go_at_call 17; refine HV.out.mono ?_; rintro e w1 ⟨rfl, h1⟩)
    | (go_at_call 47; refine (HC.out _ h1).mono ?_; rintro e w3 ⟨v3, q3, rfl, hO3, hB3, h3⟩; have hL3 := Lib.hid (Like.of_map hB3); have HO3 := Lib.hid hO3; obtain ⟨b3, c3, hv3⟩ := (Sl.of_own hO3.row).shape; rw [hL3.out.len, HN.out] at hv3; subst hv3; clear hO3 hB3))
  refine wp_loop_rounds 1 ?_
  rw [rounds_succ]
  go_wp2
  go_ret2
  have hs1 := h1.size
  refine ⟨_, q3, rfl, ⟨own_mono HO3.out.ownP.row hs1, HO3.out.ownP.src⟩, ?_, h1.trans (h3.mono h1.size)⟩
  rw [HN.out, shiftTo_zero]
  have := hL3.out
  rwa [HN.out] at this

set_option maxRecDepth 100000 in
set_option maxHeartbeats 1000000 in
theorem refShift_any (p : List Opn) (v : Value) (by' : Int) (w : World) (hl : IsProg w v p) (hok : okProg p = true) (hn : 0 < p.length) : Calls Try.prog 32 #[v, .int .i64 by'] w (RefShiftPost p by' w) := by
  have HV := Lib.hid (refValid_any p v w hl (okProg_narrow hok))
  rw [hok] at HV
  have HC := Lib.hid (fun w1 (hb : Below w.heap.size w w1) => refCopied_any p v w1 (hl.keeps (Keeps.of_below hb)) (okProg_narrow hok))
  unfold CopySPost at HC
  have hbd := mn_mx_bd hok hn
  have HT := Lib.hid (fun k hk => timeOf_bd hok k hk)
  have hlp := okProg_len hok
  have HR : Hid (inRange p by' → bt (-200000) by' 200000 = true) := Lib.hid fun h => bt_iff.2 (by unfold inRange at h; omega)
  clear hl hok hbd
  go_enter Try.func32, Try.ntmps32
  go_wp2_with (first
    | (go_at_call 17; refine HV.out.mono ?_; rintro e w1 ⟨rfl, h1⟩)
    | (go_at_call 47; refine (HC.out _ h1).mono ?_; rintro e w3 ⟨v3, q3, rfl, hO3, hB3, h3⟩; have hL3 := Lib.hid (Like.of_map hB3); obtain ⟨g, cap, hv3, hBg, hgw⟩ := hO3.ownP.shape (by rw [hL3.out.len]; exact hn); rw [hL3.out.len] at hv3; subst hv3; have HO3 := Lib.hid hO3.ownP; clear hO3 hB3))
  have h3' := h1.trans (h3.mono h1.size)
  have hs1 := h1.size
  have HO3' : Hid (OwnP w3 w.heap.size (.slice (some ⟨g, 0, none⟩) p.length cap) q3) := Lib.hid ⟨own_mono HO3.out.row hs1, HO3.out.src⟩
  clear HO3
  go_loopw [7] (fun vi wr => ∃ (k : Nat) (q : List Opn), k ≤ p.length ∧ vi = .int .i64 k ∧ Hid (Like p.length (shiftTo p by' k) q) ∧ Hid (OwnP wr w.heap.size (.slice (some ⟨g, 0, none⟩) p.length cap) q) ∧ Hid (∀ i, i < k → -100000 ≤ timeOf p i + by' ∧ timeOf p i + by' ≤ 100000) ∧ Below w.heap.size w wr) (fun vi _ => p.length - (intOf vi).toNat)
  case atStart => exact ⟨0, q3, by omega, rfl, by rw [shiftTo_zero]; exact hL3, HO3', Lib.hid fun i hi => by omega, h3'⟩
  case round =>
    clear HO3' hL3 h3
    obtain ⟨k, q, hk, rfl, HL, HO, HI, hbel⟩ := hrel
    by_cases hlt : k < p.length
    · have hkq : k < q.length := by rw [HL.out.len]; exact hlt
      obtain ⟨c0, f0, hO'⟩ := HO.out.time HL.out.len k hkq ((opn p k).time + by')
      have ht : q[k].time = (opn p k).time := by
        have := (bare_time (HL.out.at' k hkq)).1
        rw [this]; simp [shiftTo]
      rw [ht] at c0
      have HO' := Lib.hid hO'
      have HL' := Lib.hid (HL.out.time k hkq ((opn p k).time + by') (shiftTo_same p by' k) (shiftTo_other p by' k))
      have hbt := HT.out k hlt
      have HIk : Hid (∀ t, t = timeOf p k → (-100000 ≤ t + by' ∧ t + by' ≤ 100000 → ∀ i, i < k + 1 → -100000 ≤ timeOf p i + by' ∧ timeOf p i + by' ≤ 100000) ∧ (¬ (-100000 ≤ t + by' ∧ t + by' ≤ 100000) → ¬ inRange p by')) := Lib.hid fun t ht => by
        subst ht
        refine ⟨fun h i hi => ?_, fun h h2 => h (inRange_at h2 k hlt)⟩
        by_cases e : i = k
        · subst e; exact h
        · exact HI.out i (by omega)
      rw [timeOf_opn hlt] at hbt HIk
      have HIk := Lib.hid (HIk.out _ rfl)
      clear ht hO' HL HO
      generalize (opn p k).time = t at *
      by_cases hby : bt (-200000) by' 200000 = true
      · have hby2 := bt_iff.1 hby
        by_cases hin : -100000 ≤ t + by' ∧ t + by' ≤ 100000
        · have hbt2 := bt_iff.2 hin
          have HI' := Lib.hid (HIk.out.1 hin)
          clear hin
          go_wp2_with (first | (go_at_call 39; refine (within_any _ _ _ _).mono ?_; rintro e w5 ⟨rfl, hw5⟩; subst hw5))
          go_roundw
          case rel => exact ⟨k + 1, _, by omega, by go_num, HL', HO', HI', hbel.setCell (p := ⟨g, k * 6, none⟩) (by simp; omega) _⟩
          case measure => simp [intOf]; omega
        · have hbt2 : bt (-100000) (t + by') 100000 = false := by
            cases h : bt (-100000) (t + by') 100000 with
            | false => rfl
            | true => exact absurd (bt_iff.1 h) hin
          have HI' := Lib.hid (HIk.out.2 hin)
          clear hin
          go_wp2_with (first | (go_at_call 39; refine (within_any _ _ _ _).mono ?_; rintro e w5 ⟨rfl, hw5⟩; subst hw5))
          go_ret2
          exact .inr ⟨HI'.out, rfl, hbel⟩
      · have HN : Hid (¬ inRange p by') := Lib.hid fun h => hby (HR.out h)
        have hby2 : bt (-200000) by' 200000 = false := by simpa using hby
        clear hby
        go_wp2_with (first | (go_at_call 39; refine (within_any _ _ _ _).mono ?_; rintro e w5 ⟨rfl, hw5⟩; subst hw5))
        go_ret2
        exact .inr ⟨HN.out, rfl, hbel⟩
    · obtain rfl : k = p.length := by omega
      go_wp2
      go_ret2
      exact .inl ⟨inRange_of hn HI.out, _, q, rfl, HO.out, HL.out, hbel⟩
end Go.Proofs.Ytmjdmpapickgkaa

/- Plain facts: the earliest times. No walk. -/
namespace Go.Proofs.Ytmjdmpapickgkaa
open Go.RowKit Go.Kk

def earl (T : Nat → Int) (l : List Src) : Int := (arr T l).getD 0
/-- the time of operation i is when its last value comes -/
def EAt (p : List Opn) (E : Nat → Int) (i : Nat) : Prop := E i = earl E (opn p i).src

theorem arr_congr {T T' : Nat → Int} {l : List Src} (h : ∀ s ∈ l, 0 ≤ s.op → T' s.op.toNat = T s.op.toNat) : arr T' l = arr T l := by
  unfold arr
  suffices H : ∀ (l : List Src) (acc : Option Int), (∀ s ∈ l, 0 ≤ s.op → T' s.op.toNat = T s.op.toNat) → l.foldl (arrStep T') acc = l.foldl (arrStep T) acc from H l none h
  intro l
  induction l with
  | nil => intro acc _; rfl
  | cons s l ih =>
    intro acc h
    rw [List.foldl_cons, List.foldl_cons]
    have : arrStep T' acc s = arrStep T acc s := by
      unfold arrStep comes
      by_cases h0 : s.op < 0
      · rw [if_pos h0, if_pos h0]
      · rw [if_neg h0, if_neg h0, h s (by simp) (by omega)]
    rw [this]
    exact ih _ fun x hx => h x (by simp [hx])
theorem earl_congr {T T' : Nat → Int} {l : List Src} (h : ∀ s ∈ l, 0 ≤ s.op → T' s.op.toNat = T s.op.toNat) : earl T' l = earl T l := by unfold earl; rw [arr_congr h]

theorem arr_in {T : Nat → Int} {lo hi : Int} : ∀ (l : List Src) (acc : Option Int), (∀ s ∈ l, 0 ≤ s.op → lo ≤ comes T s ∧ comes T s ≤ hi) → (∀ u, acc = some u → lo ≤ u ∧ u ≤ hi) → ∀ u, l.foldl (arrStep T) acc = some u → lo ≤ u ∧ u ≤ hi := by
  intro l
  induction l with
  | nil => intro acc _ ha u hu; exact ha u hu
  | cons s l ih =>
    intro acc hl ha u hu
    refine ih _ (fun x hx => hl x (by simp [hx])) (fun y hy => ?_) u hu
    unfold arrStep at hy
    split at hy
    · exact ha y hy
    · have hc := hl s (by simp) (by omega)
      cases acc with
      | none => simp at hy; omega
      | some v =>
        have := ha v rfl
        simp only [Option.some.injEq] at hy
        split at hy <;> omega
theorem earl_in {T : Nat → Int} {l : List Src} {hi : Int} (hh : 0 ≤ hi) (h : ∀ s ∈ l, 0 ≤ s.op → 0 ≤ comes T s ∧ comes T s ≤ hi) : 0 ≤ earl T l ∧ earl T l ≤ hi := by
  unfold earl
  cases ha : arr T l with
  | none => exact ⟨by simp, by simpa using hh⟩
  | some u => exact arr_in l none h (by simp) u ha
theorem earl_ge {T : Nat → Int} {l : List Src} {s : Src} (hs : s ∈ l) (h0 : 0 ≤ s.op) : comes T s ≤ earl T l := by
  unfold earl
  cases ha : arr T l with
  | none => have := arr_none (acc := none) ha s hs; omega
  | some u => exact (arr_ge l none u ha).2 s hs h0

theorem e_unique {p : List Opn} (hok : okProg p = true) (hr : Ready p) {V V' : Nat → Int} (h : ∀ i, i < p.length → EAt p V i) (h' : ∀ i, i < p.length → EAt p V' i) : ∀ i, i < p.length → V i = V' i := by
  suffices H : ∀ (m : Nat) (i : Nat), i < p.length → (timeOf p i + 100000).toNat < m → V i = V' i from fun i hi => H _ i hi (Nat.lt_succ_self _)
  intro m
  induction m with
  | zero => intro i _ h; omega
  | succ m ih =>
    intro i hi hm
    have e1 := h i hi
    have e2 := h' i hi
    unfold EAt at e1 e2
    rw [e1, e2]
    refine earl_congr fun s hs h0 => ?_
    obtain ⟨h1, h2⟩ := hr i hi s hs h0
    have := timeOf_bd hok i hi
    have := timeOf_bd hok _ h1
    exact ih _ h1 (by omega)

/-- ready, with the wait itself -/
def Ready2 (p : List Opn) : Prop := ∀ i, i < p.length → ∀ s ∈ (opn p i).src, 0 ≤ s.op → s.op.toNat < p.length ∧ timeOf p s.op.toNat + max 1 s.hops ≤ timeOf p i
theorem ready2_of {p : List Opn} (hok : okProg p = true) (h : waitL p = []) : Ready2 p := by
  intro i hi s hs h0
  have hr := ready_of hok h i hi s hs h0
  refine ⟨hr.1, ?_⟩
  have hw : waitsB (timeOf p) (opn p i) = false := by
    unfold waitL at h
    rw [List.filter_eq_nil_iff] at h
    simpa using h i (by simpa using hi)
  unfold waitsB at hw
  cases ha : arr (timeOf p) (opn p i).src with
  | none => have := arr_none (acc := none) ha s hs; omega
  | some u =>
    rw [ha] at hw
    have h1 := (arr_ge _ _ u ha).2 s hs h0
    simp only [decide_eq_false_iff_not] at hw
    unfold comes at h1
    rw [timeOf_opn hi]
    omega

/-! in order of time -/
structure DE (p : List Opn) (d : Array Nat) (E : Nat → Int) (k : Nat) : Prop where
  done : ∀ j, j < k → EAt p E d[j]! ∧ 0 ≤ E d[j]! ∧ E d[j]! ≤ 12 * j
  rest : ∀ i, i < p.length → (∀ j, j < k → d[j]! ≠ i) → E i = timeOf p i
theorem DE.bd {p : List Opn} {d : Array Nat} {E : Nat → Int} {k : Nat} (h : DE p d E k) (hok : okProg p = true) (ho : Order p d) (hk : k ≤ p.length) (h60 : p.length ≤ 60) : ∀ i, i < p.length → -100000 ≤ E i ∧ E i ≤ 100000 := by
  intro i hi
  obtain ⟨j, hj, rfl⟩ := ho.surj hi
  by_cases e : j < k
  · have := h.done j e; omega
  · rw [h.rest _ hi (fun m hm e2 => by have := ho.inj (by omega) hj e2; omega)]
    exact timeOf_bd hok _ hi
theorem DE.step {p : List Opn} {d : Array Nat} {E : Nat → Int} {k : Nat} (h : DE p d E k) (hok : okProg p = true) (ho : Order p d) (hr : Ready p) (hk : k < p.length) :
    DE p d (upd E d[k]! (earl E (opn p d[k]!).src)) (k + 1) := by
  generalize hx : earl E (opn p d[k]!).src = x
  have srcs : ∀ j, j ≤ k → ∀ s ∈ (opn p d[j]!).src, 0 ≤ s.op → ∃ i, i < j ∧ d[i]! = s.op.toNat := fun j hj s hs h0 => by
    obtain ⟨h1, h2⟩ := hr _ (ho.lt j (by omega)) s hs h0
    exact ho.early (by omega) h1 h2
  have key : ∀ j, j ≤ k → earl (upd E d[k]! x) (opn p d[j]!).src = earl E (opn p d[j]!).src := by
    intro j hj
    refine earl_congr fun s hs h0 => ?_
    obtain ⟨i, hi, e⟩ := srcs j hj s hs h0
    refine upd_other fun e2 => ?_
    have := ho.inj (i := i) (j := k) (by omega) hk (e.trans e2)
    omega
  have hxb : 0 ≤ x ∧ x ≤ 12 * k := by
    rw [← hx]
    refine earl_in (by omega) fun s hs h0 => ?_
    obtain ⟨i, hi, e⟩ := srcs k (Nat.le_refl _) s hs h0
    have hd := h.done i hi
    rw [e] at hd
    have hsb := (okProg_op hok d[k]! (ho.lt k hk)).src
    rw [← opn_eq (ho.lt k hk)] at hsb
    have hh : 0 ≤ s.hops ∧ s.hops ≤ 12 := by rcases hsb s hs with h | h <;> omega
    unfold comes
    omega
  refine ⟨fun j hj => ?_, fun i hi hne => ?_⟩
  · unfold EAt
    rw [key j (by omega)]
    by_cases e : j = k
    · subst e; rw [upd_same]; exact ⟨hx.symm, hxb⟩
    · rw [upd_other fun e2 => e (ho.inj (by omega) hk e2)]
      exact h.done j (by omega)
  · rw [upd_other fun e => hne k (by omega) e.symm]
    exact h.rest i hi fun j hj => hne j (by omega)
theorem DE.all {p : List Opn} {d : Array Nat} {E : Nat → Int} (h : DE p d E p.length) (ho : Order p d) : ∀ i, i < p.length → EAt p E i ∧ 0 ≤ E i ∧ E i ≤ 12 * p.length := by
  intro i hi
  obtain ⟨j, hj, rfl⟩ := ho.surj hi
  have := h.done j hj
  exact ⟨this.1, this.2.1, by omega⟩
theorem DE.start (p : List Opn) (d : Array Nat) : DE p d (timeOf p) 0 := ⟨fun j hj => by omega, fun _ _ _ => rfl⟩

open Classical in
/-- the earliest times -/
noncomputable def theE (p : List Opn) : Nat → Int := if h : ∃ E : Nat → Int, ∀ i, i < p.length → EAt p E i ∧ 0 ≤ E i then Classical.choose h else fun _ => 0
theorem theE_eq {p : List Opn} (hok : okProg p = true) (hw : waitL p = []) {E : Nat → Int} (h : ∀ i, i < p.length → EAt p E i ∧ 0 ≤ E i) : ∀ i, i < p.length → E i = theE p i := by
  have hex : ∃ E : Nat → Int, ∀ i, i < p.length → EAt p E i ∧ 0 ≤ E i := ⟨E, h⟩
  have hs := Classical.choose_spec hex
  unfold theE
  rw [dif_pos hex]
  exact e_unique hok (ready_of hok hw) (fun i hi => (h i hi).1) (fun i hi => (hs i hi).1)

/-! by need -/
def ClE (p : List Opn) (M : Nat → Int) : Prop := ∀ j, j < p.length → M j = -1 ∨ (0 ≤ M j ∧ M j ≤ timeOf p j + 100000 ∧ EAt p M j ∧ ∀ s ∈ (opn p j).src, 0 ≤ s.op → 0 ≤ M s.op.toNat)
theorem ClE.start (p : List Opn) : ClE p (fun _ => -1) := fun _ _ => .inl rfl
theorem ClE.form {p : List Opn} {M : Nat → Int} (h : ClE p M) (hok : okProg p = true) (hr : Ready2 p) {i : Nat} (hi : i < p.length) (hs : ∀ s ∈ (opn p i).src, 0 ≤ s.op → 0 ≤ M s.op.toNat) :
    ClE p (upd M i (earl M (opn p i).src)) ∧ Ext M (upd M i (earl M (opn p i).src)) ∧ 0 ≤ earl M (opn p i).src ∧ earl M (opn p i).src ≤ timeOf p i + 100000 := by
  have hb : 0 ≤ earl M (opn p i).src ∧ earl M (opn p i).src ≤ timeOf p i + 100000 := by
    have hti := timeOf_bd hok i hi
    refine earl_in (by omega) fun s hs' h0 => ?_
    obtain ⟨h1, h2⟩ := hr i hi s hs' h0
    have h3 := hs s hs' h0
    have hm : M s.op.toNat ≤ timeOf p s.op.toNat + 100000 := by
      rcases h _ h1 with h | h
      · omega
      · exact h.2.1
    unfold comes
    omega
  generalize hx : earl M (opn p i).src = x at *
  have same : M i ≠ -1 → upd M i x = M := fun hne => by
    rcases h i hi with h1 | ⟨_, _, h2, _⟩
    · exact absurd h1 hne
    · funext j
      unfold upd
      split
      · rename_i e; subst e; rw [← hx]; exact h2.symm
      · rfl
  by_cases hne : M i = -1
  · have ext : Ext M (upd M i x) := fun j hj => upd_other fun e => hj (e ▸ hne)
    refine ⟨fun j hj => ?_, ext, hb⟩
    have pos : ∀ j', 0 ≤ M j' → 0 ≤ upd M i x j' := fun j' h0 => by rw [ext j' (by omega)]; exact h0
    by_cases e : j = i
    · subst e
      refine .inr ⟨by rw [upd_same]; exact hb.1, by rw [upd_same]; exact hb.2, ?_, fun s hs' h0 => pos _ (hs s hs' h0)⟩
      unfold EAt
      rw [earl_congr (T := M) fun s hs' h0 => ext _ (by have := hs s hs' h0; omega), upd_same, hx]
    · rcases h j hj with h1 | ⟨h1, h1', h2, h3⟩
      · exact .inl (by rw [upd_other e]; exact h1)
      · refine .inr ⟨by rw [upd_other e]; exact h1, by rw [upd_other e]; exact h1', ?_, fun s hs' h0 => pos _ (h3 s hs' h0)⟩
        unfold EAt
        rw [earl_congr (T := M) fun s hs' h0 => ext _ (by have := h3 s hs' h0; omega), upd_other e]
        exact h2
  · rw [same hne]
    exact ⟨h, Ext.refl _, hb⟩
theorem Ext.pos {M M' : Nat → Int} (h : Ext M M') {i : Nat} (h0 : 0 ≤ M i) : 0 ≤ M' i := by rw [h i (by omega)]; exact h0
/-- the running greatest -/
def earlTo (T : Nat → Int) (l : List Src) : Int := earl T l
theorem earl_take (T : Nat → Int) (l : List Src) (k : Nat) (hk : k < l.length) (hpos : 0 ≤ l[k].op → 0 ≤ comes T l[k]) : earl T (l.take (k + 1)) = if l[k].op < 0 then earl T (l.take k) else max (earl T (l.take k)) (comes T l[k]) := by
  unfold earl
  rw [arr_take T l k hk]
  unfold arrStep
  split
  · rfl
  · rename_i h0
    cases ha : arr T (l.take k) with
    | none => simp only [Option.getD_some, Option.getD_none]; have := hpos (by omega); omega
    | some u => simp only [Option.getD_some]; split <;> omega
end Go.Proofs.Ytmjdmpapickgkaa
