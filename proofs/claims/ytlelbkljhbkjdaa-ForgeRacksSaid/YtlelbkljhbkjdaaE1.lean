import Derived.Test.YtlelbkljhbkjdaaD4
namespace Go.Proofs.Ytlelbkljhbkjdaa
open Go.RowKit Go.Kk

structure Mv where
  what : Int
  disk : Int
  n : Int
  bs : List UInt8
  k0 : Int
  k1 : Int
  k2 : Int

def Mv.kp (m : Mv) : Nat → Int := fun d => if d = 0 then m.k0 else if d = 1 then m.k1 else m.k2

/-- a move lies at ⟨b, o⟩ -/
def MvAt (w : World) (b o : Nat) (m : Mv) : Prop :=
  0 ≤ m.what ∧ m.what ≤ 255 ∧ m.n ≤ 9223372036854775807 ∧ w.cell? ⟨b, o, none⟩ = some (.int .u8 m.what) ∧ w.cell? ⟨b, o + 1, none⟩ = some (.int .i64 m.disk) ∧ w.cell? ⟨b, o + 2, none⟩ = some (.int .i64 m.n) ∧
    (∃ bv, w.cell? ⟨b, o + 3, none⟩ = some bv ∧ Sl w 1 bv m.bs.length (B8 m.bs)) ∧ w.cell? ⟨b, o + 4, none⟩ = some (.int .i64 m.k0) ∧ w.cell? ⟨b, o + 5, none⟩ = some (.int .i64 m.k1) ∧ w.cell? ⟨b, o + 6, none⟩ = some (.int .i64 m.k2)

theorem MvAt.keeps {w w' : World} {b o : Nat} {m : Mv} (h : MvAt w b o m) (k : Keeps w w') : MvAt w' b o m := by
  obtain ⟨h1, h2, h3, c0, c1, c2, ⟨bv, c3, hs⟩, c4, c5, c6⟩ := h
  exact ⟨h1, h2, h3, k _ _ c0, k _ _ c1, k _ _ c2, ⟨bv, k _ _ c3, hs.keeps k⟩, k _ _ c4, k _ _ c5, k _ _ c6⟩

/-- both racks are in the same state -/
structure Both (w : World) (R D M : Nat) (S : St) (t : Nat) (wr : World) : Prop where
  rack : RackIs wr R D S
  ref : RefIs wr M S
  bR : w.heap.size ≤ R
  bD : w.heap.size ≤ D
  bM : w.heap.size ≤ M
  len : ∀ d, d < 3 → (S.sf d).length + (S.lo d).length ≤ t
  below : Below w.heap.size w wr

theorem Both.later {w wr w1 : World} {R D M t : Nat} {S : St} (h : Both w R D M S t wr) (hb : Below wr.heap.size wr w1) : Both w R D M S t w1 :=
  ⟨h.rack.below hb, h.ref.below hb, h.bR, h.bD, h.bM, h.len, h.below.trans (hb.mono h.below.size)⟩

theorem Both.lt {w wr : World} {R D M t : Nat} {S : St} (h : Both w R D M S t wr) : R < wr.heap.size ∧ D < wr.heap.size ∧ M < wr.heap.size := by
  obtain ⟨life, hR⟩ := h.rack.rack
  obtain ⟨s0, l0, s1, l1, s2, l2, hD, _⟩ := h.rack.disks
  obtain ⟨d0, d1, d2, hM, _⟩ := h.ref.heap
  exact ⟨heap_lt hR, heap_lt hD, heap_lt hM⟩

/-- what a call that changes a disk leaves is no longer than said -/
theorem done_len {S g : St} {disk : Int} {ok : Bool} {t : Nat} (h : ∀ d, d < 3 → (S.sf d).length + (S.lo d).length ≤ t) (hg : ∀ d, d < 3 → (g.sf d).length + (g.lo d).length ≤ t) :
    ∀ d, d < 3 → ((doneE S disk ok g).2.sf d).length + ((doneE S disk ok g).2.lo d).length ≤ t := by
  intro d hd
  unfold doneE
  split
  · exact h d hd
  · split
    · exact h d hd
    · split
      · exact h d hd
      · exact hg d hd

theorem app_len {S : St} {k : Nat} {bs : List UInt8} {t : Nat} (h : ∀ d, d < 3 → (S.sf d).length + (S.lo d).length ≤ t) : ∀ d, d < 3 → ((appS S k bs).sf d).length + ((appS S k bs).lo d).length ≤ t + bs.length := by
  intro d hd
  have := h d hd
  show (S.sf d).length + (upd S.lo k (S.lo k ++ bs) d).length ≤ _
  unfold upd
  split
  · rename_i e; subst e; rw [List.length_append]; omega
  · omega
theorem sync_len {S : St} {k : Nat} {t : Nat} (h : ∀ d, d < 3 → (S.sf d).length + (S.lo d).length ≤ t) : ∀ d, d < 3 → ((syncS S k).sf d).length + ((syncS S k).lo d).length ≤ t := by
  intro d hd
  have := h d hd
  show (upd S.sf k (S.sf k ++ S.lo k) d).length + (upd S.lo k [] d).length ≤ _
  unfold upd
  split
  · rename_i e; subst e; rw [List.length_append, List.length_nil]; omega
  · omega
theorem trim_len {S : St} {k n : Nat} {t : Nat} (h : ∀ d, d < 3 → (S.sf d).length + (S.lo d).length ≤ t) : ∀ d, d < 3 → ((trimS S k n).sf d).length + ((trimS S k n).lo d).length ≤ t := by
  intro d hd
  have := h d hd
  show (upd S.sf k ((S.sf k ++ S.lo k).take n) d).length + (upd S.lo k [] d).length ≤ _
  unfold upd
  split
  · rename_i e; subst e; rw [List.length_take, List.length_append, List.length_nil]; omega
  · omega
theorem lose_len {S : St} {disk : Int} {t : Nat} (h : ∀ d, d < 3 → (S.sf d).length + (S.lo d).length ≤ t) : ∀ d, d < 3 → ((loseS S disk).sf d).length + ((loseS S disk).lo d).length ≤ t := by
  intro d hd
  have := h d hd
  unfold loseS
  split
  · exact this
  · show (upd S.sf _ [] d).length + (upd S.lo _ [] d).length ≤ _
    unfold upd
    split
    · simp
    · omega
theorem crash_len {S : St} {kp : Nat → Int} {t : Nat} (h : ∀ d, d < 3 → (S.sf d).length + (S.lo d).length ≤ t) : ∀ d, d < 3 → ((crashS S kp).sf d).length + ((crashS S kp).lo d).length ≤ t := by
  intro d hd
  have := h d hd
  show ((partC S kp 3).sf d).length + ((partC S kp 3).lo d).length ≤ t
  unfold partC
  simp only [hd, if_true, List.length_append, List.length_take, List.length_nil]
  omega

theorem RackIs.congr {w : World} {R D : Nat} {S S' : St} (h : RackIs w R D S') (hs : ∀ d, d < 3 → S'.sf d = S.sf d ∧ S'.lo d = S.lo d) (hd : S'.down = S.down) (ha : S'.armed = S.armed) : RackIs w R D S := by
  obtain ⟨h1, h2, h3, h4⟩ := h
  rw [ha, hd] at h1
  rw [ha] at h4
  rw [(hs 0 (by omega)).1, (hs 1 (by omega)).1, (hs 2 (by omega)).1, (hs 0 (by omega)).2, (hs 1 (by omega)).2, (hs 2 (by omega)).2] at h2
  refine ⟨h1, h2, fun d hd => ?_, h4⟩
  have := h3 d hd
  rw [(hs d hd).1, (hs d hd).2] at this
  exact this
theorem Both.fr1 {w wr w1 : World} {R D M t : Nat} {S : St} (h : Both w R D M S t wr) (hf : Fr (fun k => k = R ∨ k = D) wr w1) : Below w.heap.size wr w1 :=
  hf.below h.below.size fun k hk => by rcases hk with rfl | rfl; exact h.bR; exact h.bD
theorem Both.step {w wr w1 w2 : World} {R D M t t' : Nat} {S S' : St} (h : Both w R D M S t wr) (hf1 : Fr (fun k => k = R ∨ k = D) wr w1) (hr1 : RackIs w1 R D S')
    (hf2 : Fr (· = M) w1 w2) (hm2 : RefIs w2 M S') (hl : ∀ d, d < 3 → (S'.sf d).length + (S'.lo d).length ≤ t') : Both w R D M S' t' w2 := by
  have hm1 := h.ref.fr h.rack hf1
  have b1 := h.fr1 hf1
  have b2 : Below w.heap.size w1 w2 := hf2.below (Nat.le_trans h.below.size b1.size) fun k hk => by subst hk; exact h.bM
  exact ⟨hr1.fr hm1 hf2, hm2, h.bR, h.bD, h.bM, hl, (h.below.trans b1).trans b2⟩
theorem le_more {S : St} {t t' : Nat} (h : ∀ d, d < 3 → (S.sf d).length + (S.lo d).length ≤ t) (ht : t ≤ t') : ∀ d, d < 3 → (S.sf d).length + (S.lo d).length ≤ t' := fun d hd => Nat.le_trans (h d hd) ht
end Go.Proofs.Ytlelbkljhbkjdaa
