/- The reference's system in memory. -/
import Derived.Test.YtdlemkmkheokkaaDoorXa
namespace Go.Proofs.YtdlemkmkheokkaaDoor
open Go.RowKit

structure YA where
  b : Nat
  ns : Nat
  ps : Nat
  nb : Nat
  pb : Nat
structure YC where
  n : Nat
  nm : Nat
  nk : Nat → Nat → K
  p : Nat
  pm : Nat
  pw : Nat → Nat → Int
def YA.has (Y : YA) (x : Nat) : Prop := x = Y.b ∨ x = Y.ns ∨ x = Y.ps ∨ x = Y.nb ∨ x = Y.pb
structure YA.ok (Y : YA) : Prop where
  bn : Y.b ≠ Y.ns
  bp : Y.b ≠ Y.ps
  bk : Y.b ≠ Y.nb
  bw : Y.b ≠ Y.pb
  np : Y.ns ≠ Y.ps
  nk : Y.ns ≠ Y.nb
  nw : Y.ns ≠ Y.pb
  pk : Y.ps ≠ Y.nb
  pw : Y.ps ≠ Y.pb
  kw : Y.nb ≠ Y.pb
/-- the first m are taken -/
def pre (m : Nat) : Nat → Bool := fun j => decide (j < m)
theorem pre_up (m : Nat) : up (pre m) m true = pre (m + 1) := by
  funext j; unfold up pre; by_cases h : j = m
  · subst h; simp
  · rw [if_neg h]; simp; omega
def slotC (l : Nat → Bool) (j : Nat) : Value := slot0 (l (j / 4)) (j % 4)
def YHead (Y : YA) (C : YC) (f : Nat → Value) : Prop :=
  (∃ c, f 0 = .slice (some ⟨Y.ns, 0, none⟩) C.n c) ∧ (∃ c, f 1 = .slice (some ⟨Y.ps, 0, none⟩) C.p c) ∧ f 6 = .slice (some ⟨Y.nb, 0, none⟩) C.n C.n ∧ f 7 = .slice (some ⟨Y.pb, 0, none⟩) C.p C.p
structure Sy (w : World) (Y : YA) (C : YC) : Prop where
  hd : ∃ f, Row w Y.b 16 f ∧ YHead Y C f
  nr : Row w Y.ns (C.n * 4) (slotC (pre C.nm))
  pr : Row w Y.ps (C.p * 4) (slotC (pre C.pm))
  kr : Row w Y.nb (C.n * 80) (slotCell C.nk)
  wr : Row w Y.pb (C.p * 32) (wordCell C.pw)
  ok : Y.ok
  n256 : C.n ≤ 256
  p256 : C.p ≤ 256
  nmn : C.nm ≤ C.n
  pmp : C.pm ≤ C.p

section
variable {w w' : World} {Y : YA} {C : YC}
theorem Sy.c0 (h : Sy w Y C) : ∃ c, w.cell? ⟨Y.b, 0, none⟩ = some (.slice (some ⟨Y.ns, 0, none⟩) C.n c) := by
  obtain ⟨f, hr, ⟨c, hf⟩, _⟩ := h.hd
  exact ⟨c, by rw [hr.cell 0 (by omega), hf]⟩
theorem Sy.c1 (h : Sy w Y C) : ∃ c, w.cell? ⟨Y.b, 1, none⟩ = some (.slice (some ⟨Y.ps, 0, none⟩) C.p c) := by
  obtain ⟨f, hr, _, ⟨c, hf⟩, _⟩ := h.hd
  exact ⟨c, by rw [hr.cell 1 (by omega), hf]⟩
theorem Sy.c6 (h : Sy w Y C) : w.cell? ⟨Y.b, 6, none⟩ = some (.slice (some ⟨Y.nb, 0, none⟩) C.n C.n) := by
  obtain ⟨f, hr, _, _, hf, _⟩ := h.hd
  rw [hr.cell 6 (by omega), hf]
theorem Sy.c7 (h : Sy w Y C) : w.cell? ⟨Y.b, 7, none⟩ = some (.slice (some ⟨Y.pb, 0, none⟩) C.p C.p) := by
  obtain ⟨f, hr, _, _, _, hf⟩ := h.hd
  rw [hr.cell 7 (by omega), hf]
theorem Sy.lt (h : Sy w Y C) (x : Nat) (hx : Y.has x) : x < w.heap.size := by
  rcases hx with rfl | rfl | rfl | rfl | rfl
  · obtain ⟨f, hr, _⟩ := h.hd; exact hr.lt
  · exact h.nr.lt
  · exact h.pr.lt
  · exact h.kr.lt
  · exact h.wr.lt
theorem Sy.only (h : Sy w Y C) {X : Nat → Prop} (k : Only X w w') (e : ∀ x, Y.has x → ¬ X x) : Sy w' Y C := by
  obtain ⟨f, hr, hf⟩ := h.hd
  exact ⟨⟨f, hr.only k (e _ (.inl rfl)), hf⟩, h.nr.only k (e _ (.inr (.inl rfl))), h.pr.only k (e _ (.inr (.inr (.inl rfl)))), h.kr.only k (e _ (.inr (.inr (.inr (.inl rfl))))), h.wr.only k (e _ (.inr (.inr (.inr (.inr rfl))))), h.ok, h.n256, h.p256, h.nmn, h.pmp⟩
theorem Sy.below (h : Sy w Y C) (k : Below w.heap.size w w') : Sy w' Y C := h.only (Only.of_below (fun _ => False) k) (fun _ _ h => h)
theorem Sy.same (h : Sy w Y C) (e : w'.heap = w.heap) : Sy w' Y C := by
  obtain ⟨f, hr, hf⟩ := h.hd
  exact ⟨⟨f, hr.of_block (by rw [e]), hf⟩, h.nr.of_block (by rw [e]), h.pr.of_block (by rw [e]), h.kr.of_block (by rw [e]), h.wr.of_block (by rw [e]), h.ok, h.n256, h.p256, h.nmn, h.pmp⟩
theorem slotC_live (l : Nat → Bool) (i : Nat) : slotC l (i * 4) = .bool (l i) := by
  have h1 : i * 4 / 4 = i := by omega
  have h2 : i * 4 % 4 = 0 := by omega
  simp [slotC, slot0, h1, h2]
theorem slotC_gone (l : Nat → Bool) (i : Nat) : slotC l (i * 4 + 1) = .bool false := by
  have h2 : (i * 4 + 1) % 4 = 1 := by omega
  simp [slotC, slot0, h2]
theorem slotC_ver (l : Nat → Bool) (i : Nat) : slotC l (i * 4 + 2) = .int .i64 0 := by
  have h2 : (i * 4 + 2) % 4 = 2 := by omega
  simp [slotC, slot0, h2]
theorem slotC_take (l : Nat → Bool) (i j : Nat) : (if j = i * 4 then .bool true else slotC l j) = slotC (up l i true) j := by
  by_cases h : j = i * 4
  · rw [if_pos h, h, slotC_live, up_same]
  · rw [if_neg h]
    unfold slotC
    by_cases h1 : j / 4 = i
    · have h3 : j % 4 ≠ 0 := by omega
      simp [slot0, h3]
    · rw [up_other _ _ _ _ h1]
end

def YC.new (n p : Nat) : YC := ⟨n, 0, fun _ _ => K.zero, p, 0, fun _ _ => 0⟩
def NewSy (w : World) (n p : Nat) (e : Ending) (w' : World) : Prop :=
  ∃ Y : YA, e = .returned (.pointer (some ⟨Y.b, 0, none⟩)) ∧ Sy w' Y (YC.new n p) ∧ (∀ x, Y.has x → w.heap.size ≤ x) ∧ Below w.heap.size w w'

/-- a slice of slots that were made -/
theorem slots_row {w : World} {base n : Nat} {v : Value} (h : w.ownsRow base 146 4 v n (slotsL n)) (h1 : 1 ≤ n) : ∃ g c, v = .slice (some ⟨g, 0, none⟩) n c ∧ base ≤ g ∧ Row w g (n * 4) (slotC fun _ => false) := by
  obtain ⟨_, h2⟩ := h
  rcases h2 with ⟨_, h0⟩ | ⟨g, cap, cur, hv, hb, hg, hnc, hm, hsz, htk⟩
  · omega
  · have hle : n * 4 ≤ cap * 4 := Nat.mul_le_mul_right 4 hnc
    refine ⟨g, cap, hv, hb, cur, 146, hg, by omega, fun j hj => ?_⟩
    have e1 : (cur.toList.take (n * 4))[j]? = cur[j]? := by rw [List.getElem?_take_of_lt hj, Array.getElem?_toList]
    rw [← e1, htk, slotsL_get n j hj]
    rfl
theorem slots_slice {w : World} {base n : Nat} {v : Value} {xs : List Value} (h : w.ownsRow base 146 4 v n xs) : ∃ A m c, v = .slice A m c := by
  rcases h.2 with ⟨h, _⟩ | ⟨g, cap, cur, h, _⟩
  · exact ⟨_, _, _, h⟩
  · exact ⟨_, _, _, h⟩

end Go.Proofs.YtdlemkmkheokkaaDoor
