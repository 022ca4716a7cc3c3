import Derived.Test.YtmjdmpapickgkaaS4
namespace Go.Proofs.Ytmjdmpapickgkaa
open Go.RowKit Go.Kk Go.Sort

/-- ascending by T on [a, b) -/
def Srt (T : Nat → Int) (a b : Nat) (d : Array Nat) : Prop := ∀ i j, a ≤ i → i ≤ j → j < b → T d[i]! ≤ T d[j]!
structure Merged (T : Nat → Int) (a b : Nat) (d d' : Array Nat) : Prop where
  perm : PermIn a b d d'
  srt : Srt T a b d'
theorem Srt.of_sorted {T : Nat → Int} {a b : Nat} {d : Array Nat} (h : SortedIn (ltT T) a b d) : Srt T a b d := by
  intro i j h1 h2 h3
  by_cases he : i = j
  · subst he; omega
  · have := h i j h1 (by omega) h3
    simpa [ltT] using this
theorem Srt.congr {T : Nat → Int} {a b : Nat} {d d' : Array Nat} (h : Srt T a b d) (he : ∀ x, a ≤ x → x < b → d'[x]! = d[x]!) : Srt T a b d' := by
  intro i j h1 h2 h3
  rw [he i h1 (by omega), he j (by omega) h3]
  exact h i j h1 h2 h3

/-! one element on the left -/
structure Up (d : Array Nat) (a b k : Nat) (dk : Array Nat) : Prop where
  size : dk.size = d.size
  low : ∀ x, a ≤ x → x < k → dk[x]! = d[x + 1]!
  at' : dk[k]! = d[a]!
  out : ∀ x, (x < a ∨ k < x) → dk[x]! = d[x]!
  perm : PermIn a b d dk
theorem Up.start (d : Array Nat) (a b : Nat) : Up d a b a d := ⟨rfl, fun x h1 h2 => by omega, rfl, fun _ _ => rfl, permIn_refl _ _ _⟩
theorem Up.step {d dk : Array Nat} {a b k : Nat} (h : Up d a b k dk) (hak : a ≤ k) (hk : k + 1 < b) (hb : b ≤ d.size) : Up d a b (k + 1) (swp dk k (k + 1)) := by
  have hs := h.size
  have hg := swp_get dk (i := k) (j := k + 1) (by omega) (by omega)
  refine ⟨by rw [size_swp]; exact hs, ?_, ?_, ?_, permIn_trans _ _ _ _ _ h.perm (swp_permIn _ _ _ _ _ (by omega) (by omega) (by omega) (by omega) (by omega))⟩
  · intro x h1 h2
    rw [hg]
    by_cases hx : x = k
    · subst hx
      rw [if_neg (by omega), if_pos rfl]
      exact h.out _ (by omega)
    · rw [if_neg (by omega), if_neg hx]; exact h.low x h1 (by omega)
  · rw [hg, if_pos rfl]; exact h.at'
  · intro x hx
    rw [hg, if_neg (by omega), if_neg (by omega)]
    exact h.out x (by omega)
theorem Up.merged {T : Nat → Int} {d d' : Array Nat} {a b i : Nat} (h : Up d a b (i - 1) d') (hs : Srt T (a + 1) b d) (hi : a + 1 ≤ i) (hib : i ≤ b) (h1 : ∀ x, a + 1 ≤ x → x < i → T d[x]! < T d[a]!) (h2 : ∀ x, i ≤ x → x < b → T d[a]! ≤ T d[x]!) : Merged T a b d d' := by
  refine ⟨h.perm, fun x y hx hxy hy => ?_⟩
  by_cases e : x = y
  · subst e; omega
  by_cases x1 : x < i - 1
  · rw [h.low x hx x1]
    by_cases y1 : y < i - 1
    · rw [h.low y (by omega) y1]; exact hs _ _ (by omega) (by omega) (by omega)
    · by_cases y2 : y = i - 1
      · subst y2; rw [h.at']; have := h1 (x + 1) (by omega) (by omega); omega
      · rw [h.out y (by omega)]; exact hs _ _ (by omega) (by omega) (by omega)
  · by_cases x2 : x = i - 1
    · subst x2
      rw [h.at', h.out y (by omega)]
      exact h2 y (by omega) hy
    · rw [h.out x (by omega), h.out y (by omega)]
      exact hs _ _ (by omega) (by omega) (by omega)

/-! one element on the right -/
structure Down (d : Array Nat) (a m k : Nat) (dk : Array Nat) : Prop where
  size : dk.size = d.size
  high : ∀ x, k < x → x ≤ m → dk[x]! = d[x - 1]!
  at' : dk[k]! = d[m]!
  out : ∀ x, (x < k ∨ m < x) → dk[x]! = d[x]!
  perm : PermIn a (m + 1) d dk
theorem Down.start (d : Array Nat) (a m : Nat) : Down d a m m d := ⟨rfl, fun x h1 h2 => by omega, rfl, fun _ _ => rfl, permIn_refl _ _ _⟩
theorem Down.step {d dk : Array Nat} {a m k : Nat} (h : Down d a m k dk) (hak : a < k) (hk : k ≤ m) (hb : m + 1 ≤ d.size) : Down d a m (k - 1) (swp dk k (k - 1)) := by
  have hs := h.size
  have hg := swp_get dk (i := k) (j := k - 1) (by omega) (by omega)
  refine ⟨by rw [size_swp]; exact hs, ?_, ?_, ?_, permIn_trans _ _ _ _ _ h.perm (swp_permIn _ _ _ _ _ (by omega) (by omega) (by omega) (by omega) (by omega))⟩
  · intro x h1 h2
    rw [hg]
    by_cases hx : x = k
    · subst hx
      rw [if_neg (by omega), if_pos rfl]
      exact h.out _ (by omega)
    · rw [if_neg (by omega), if_neg hx]; exact h.high x (by omega) h2
  · rw [hg, if_pos rfl]; exact h.at'
  · intro x hx
    rw [hg, if_neg (by omega), if_neg (by omega)]
    exact h.out x (by omega)
theorem Down.merged {T : Nat → Int} {d d' : Array Nat} {a m i : Nat} (h : Down d a m i d') (hs : Srt T a m d) (hi : a ≤ i) (him : i ≤ m) (h1 : ∀ x, a ≤ x → x < i → T d[x]! ≤ T d[m]!) (h2 : ∀ x, i ≤ x → x < m → T d[m]! < T d[x]!) : Merged T a (m + 1) d d' := by
  refine ⟨h.perm, fun x y hx hxy hy => ?_⟩
  by_cases e : x = y
  · subst e; omega
  by_cases x1 : x < i
  · rw [h.out x (by omega)]
    by_cases y1 : y < i
    · rw [h.out y (by omega)]; exact hs _ _ (by omega) (by omega) (by omega)
    · by_cases y2 : y = i
      · subst y2; rw [h.at']; exact h1 x hx x1
      · rw [h.high y (by omega) (by omega)]; exact hs _ _ (by omega) (by omega) (by omega)
  · by_cases x2 : x = i
    · subst x2
      rw [h.at', h.high y (by omega) (by omega)]
      have := h2 (y - 1) (by omega) (by omega)
      omega
    · rw [h.high x (by omega) (by omega), h.high y (by omega) (by omega)]
      exact hs _ _ (by omega) (by omega) (by omega)

/-! the general case -/
/-- the two halves stand apart -/
structure Halved (T : Nat → Int) (a L M e b : Nat) (d d2 : Array Nat) : Prop where
  perm : PermIn a b d d2
  s1 : Srt T a L d2
  s2 : Srt T L M d2
  s3 : Srt T M e d2
  s4 : Srt T e b d2
  cross : ∀ x y, a ≤ x → x < M → M ≤ y → y < b → T d2[x]! ≤ T d2[y]!

theorem Halved.of {T : Nat → Int} {a m b L M e : Nat} {d d2 : Array Nat} (hb : b ≤ d.size) (ham : a < m) (hmb : m < b) (hL : a ≤ L) (hLm : L ≤ m) (hLM : L ≤ M) (haM : a ≤ M) (hMb : M ≤ b) (he : e + L = M + m) (heb : e ≤ b)
    (hs1 : Srt T a m d) (hs2 : Srt T m b d) (lo : L = a ∨ e = b ∨ T d[L - 1]! ≤ T d[e]!) (hi : L = M ∨ L = m ∨ T d[e - 1]! < T d[L]!)
    (hr : (L < m ∧ m < e ∧ Rotated d L m e d2) ∨ (¬ (L < m ∧ m < e) ∧ d2 = d)) : Halved T a L M e b d d2 := by
  -- where things come from
  have f1 : ∀ x, a ≤ x → x < L → d2[x]! = d[x]! := by
    rcases hr with ⟨_, _, r⟩ | ⟨_, rfl⟩
    · exact fun x _ hx => r.out x (.inl hx)
    · exact fun _ _ _ => rfl
  have f4 : ∀ x, e ≤ x → x < b → d2[x]! = d[x]! := by
    rcases hr with ⟨_, _, r⟩ | ⟨_, rfl⟩
    · exact fun x hx _ => r.out x (.inr hx)
    · exact fun _ _ _ => rfl
  have f2 : ∀ x, L ≤ x → x < M → d2[x]! = d[m + (x - L)]! := by
    rcases hr with ⟨h1, h2, r⟩ | ⟨h1, rfl⟩
    · intro x h3 h4
      rw [r.at' x h3 (by omega)]
      unfold rotT
      rw [if_pos (by omega)]
    · intro x h3 h4
      have : L = m := by omega
      congr 1; omega
  have f3 : ∀ x, M ≤ x → x < e → d2[x]! = d[L + (x - M)]! := by
    rcases hr with ⟨h1, h2, r⟩ | ⟨h1, rfl⟩
    · intro x h3 h4
      rw [r.at' x (by omega) h4]
      unfold rotT
      rw [if_neg (by omega)]
      congr 1; omega
    · intro x h3 h4
      have : L = M := by omega
      congr 1; omega
  have hp : PermIn a b d d2 := by
    rcases hr with ⟨h1, h2, r⟩ | ⟨h1, rfl⟩
    · exact permIn_mono _ _ _ _ _ _ hL heb hb r.perm
    · exact permIn_refl _ _ _
  refine ⟨hp, ?_, ?_, ?_, ?_, ?_⟩
  · intro i j h1 h2 h3
    rw [f1 i h1 (by omega), f1 j (by omega) h3]; exact hs1 _ _ h1 h2 (by omega)
  · intro i j h1 h2 h3
    rw [f2 i h1 (by omega), f2 j (by omega) h3]; exact hs2 _ _ (by omega) (by omega) (by omega)
  · intro i j h1 h2 h3
    rw [f3 i h1 (by omega), f3 j (by omega) h3]; exact hs1 _ _ (by omega) (by omega) (by omega)
  · intro i j h1 h2 h3
    rw [f4 i h1 (by omega), f4 j (by omega) h3]; exact hs2 _ _ (by omega) (by omega) (by omega)
  · intro x y h1 h2 h3 h4
    by_cases hx : x < L
    · rw [f1 x h1 hx]
      by_cases hy : y < e
      · rw [f3 y h3 hy]; exact hs1 _ _ h1 (by omega) (by omega)
      · rw [f4 y (by omega) h4]
        have k1 := hs1 x (L - 1) h1 (by omega) (by omega)
        have k2 := hs2 e y (by omega) (by omega) h4
        rcases lo with lo | lo | lo <;> omega
    · rw [f2 x (by omega) h2]
      by_cases hy : y < e
      · rw [f3 y h3 hy]
        have k1 := hs2 (m + (x - L)) (e - 1) (by omega) (by omega) (by omega)
        have k2 := hs1 L (L + (y - M)) hL (by omega) (by omega)
        rcases hi with hi | hi | hi <;> omega
      · rw [f4 y (by omega) h4]; exact hs2 _ _ (by omega) (by omega) h4

/-- both halves merged -/
theorem Halved.merged {T : Nat → Int} {a L M e b : Nat} {d d2 d3 d4 : Array Nat} (h : Halved T a L M e b d d2) (hb : b ≤ d.size) (haM : a ≤ M) (hMb : M ≤ b) (h3 : Merged T a M d2 d3) (h4 : Merged T M b d3 d4) : Merged T a b d d4 := by
  have z2 : d2.size = d.size := h.perm.1
  have z3 : d3.size = d2.size := h3.perm.1
  have c1 : ∀ x y, a ≤ x → x < M → M ≤ y → y < b → T d3[x]! ≤ T d3[y]! := by
    intro x y hx hxM hy hyb
    rw [h3.perm.2.1 y (.inr hy)]
    exact permIn_all d2 d3 a M (fun v => T v ≤ T d2[y]!) (by omega) h3.perm (fun i hi hiM => h.cross i y hi hiM hy hyb) x hx hxM
  have c2 : ∀ x y, a ≤ x → x < M → M ≤ y → y < b → T d4[x]! ≤ T d4[y]! := by
    intro x y hx hxM hy hyb
    rw [h4.perm.2.1 x (.inl hxM)]
    exact permIn_all d3 d4 M b (fun v => T d3[x]! ≤ T v) (by omega) h4.perm (fun i hi hib => c1 x i hx hxM hi hib) y hy hyb
  refine ⟨permIn_trans _ _ _ _ _ h.perm (permIn_trans _ _ _ _ _ (permIn_mono _ _ _ _ _ _ (Nat.le_refl _) hMb (by omega) h3.perm) (permIn_mono _ _ _ _ _ _ haM (Nat.le_refl _) (by omega) h4.perm)), ?_⟩
  intro x y hx hxy hy
  by_cases hxM : x < M
  · by_cases hyM : y < M
    · rw [h4.perm.2.1 x (.inl hxM), h4.perm.2.1 y (.inl hyM)]
      exact h3.srt x y hx hxy hyM
    · exact c2 x y hx hxM (by omega) hy
  · exact h4.srt x y (by omega) hxy hy
theorem Merged.none {T : Nat → Int} {a b : Nat} {d : Array Nat} (h : Srt T a b d) : Merged T a b d d := ⟨permIn_refl _ _ _, h⟩
theorem Halved.left {T : Nat → Int} {a L M e b : Nat} {d d2 : Array Nat} (h : Halved T a L M e b d d2) (hn : ¬ (a < L ∧ L < M)) (haL : a ≤ L) (hLM : L ≤ M) : Srt T a M d2 := by
  intro i j h1 h2 h3
  by_cases hL : L = a
  · subst hL; exact h.s2 i j h1 h2 h3
  · have : L = M := by omega
    subst this; exact h.s1 i j h1 h2 h3
theorem Halved.right {T : Nat → Int} {a L M e b : Nat} {d d2 d3 : Array Nat} (h : Halved T a L M e b d d2) (hn : ¬ (M < e ∧ e < b)) (hMe : M ≤ e) (heb : e ≤ b) (hp : PermIn a M d2 d3) : Srt T M b d3 := by
  intro i j h1 h2 h3
  rw [hp.2.1 i (.inr h1), hp.2.1 j (.inr (by omega))]
  by_cases hL : e = M
  · subst hL; exact h.s4 i j h1 h2 h3
  · have : e = b := by omega
    subst this; exact h.s3 i j h1 h2 h3
end Go.Proofs.Ytmjdmpapickgkaa
