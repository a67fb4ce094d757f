/- A slice of things, opened to cells. -/
import Derived.Test.YtdlemkmkheokkaaDoorVb
import Derived.Test.YtdlemkmkheokkaaDoorR2
import Derived.Deep.Slices
import Derived.Deep.Fields
import Derived.ChangeSame
import Derived.ChangeSlices
namespace Go.Proofs.YtdlemkmkheokkaaDoor
open Go Go.ChangeShapes Go.WideShapes Go.Deep Go.RowKit

section
variable {H : Type} {enc : TypeId × Value → H} {P : Program} {w : World} {base : Nat} {spare : Nat → Bool} {held : Bool}
theorem open_slice_fields {t e : TypeId} {fs : Array Field} {fuel : Nat} {cs : List Value} {x : DataW H × List MemPlace} (ht : P.underlying t = some (.slice e)) (he : P.underlying e = some (.struct fs))
    (hone : oneCellFields P fs = true) (hC : P.cellsOf e = fs.size) (h : DataW.trod enc P w base spare held fuel t cs = some x) :
    (cs = [.slice none 0 0] ∧ x = (.nil, [])) ∨
    ∃ (a : Addr) (len cap m : Nat) (D : Nat → DataW H) (Pl : Nat → List MemPlace), cs = [.slice (some a) len cap] ∧ base ≤ a.block ∧ len ≤ cap ∧ cap ≤ maxLen ∧ m = (if spare a.block then cap else len) ∧
      x = (.slice ((List.range len).map D) ((List.range (m - len)).map fun j => D (len + j)), MemPlace.row a (m * fs.size) ++ (List.range m).flatMap Pl) ∧
      ∀ i, i < m → ∃ (ys : List (DataW H × List MemPlace)) (n : Nat), D i = .agg (ys.map (·.1)) ∧ Pl i = ys.flatMap (·.2) ∧ ys.length = fs.size ∧
        ∀ (j : Nat) (f : Field), fs[j]? = some f → ∃ (v : Value) (y : DataW H × List MemPlace), w.cell? (a.add (i * fs.size + j)) = some v ∧ ys[j]? = some y ∧ DataW.trod enc P w base spare held n f.type [v] = some y := by
  rcases open_slice ht h with h0 | ⟨a, len, cap, m, n, D, Pl, hcs, hb, hl, hm, hmm, hx, hi⟩
  · exact .inl h0
  · refine .inr ⟨a, len, cap, m, D, Pl, hcs, hb, hl, hm, hmm, by rw [hC] at hx; exact hx, fun i him => ?_⟩
    obtain ⟨cs', hc, ht'⟩ := hi i him
    rw [hC] at hc
    obtain ⟨ys, n', hn', hy, hlen, hyl, hf⟩ := DataW.trod_struct he ht'
    obtain ⟨_, hcl, hat⟩ := World.cells?_some hc
    simp only [Prod.mk.injEq] at hy
    refine ⟨ys, n', hy.1, hy.2, hyl, fun j f hj => ?_⟩
    obtain ⟨ho, hk⟩ := hone_of hone j f hj
    have hjl : j < fs.size := (Array.getElem?_eq_some_iff.1 hj).1
    have hcell := hat j hjl
    have hv : cs'[j]? = some (cs'[j]'(by omega)) := List.getElem?_eq_getElem (by omega)
    have h1 := hf j f hj
    rw [ho, hk] at h1
    have hone' : (cs'.drop j).take 1 = [cs'[j]'(by omega)] := by
      rw [List.drop_eq_getElem_cons (by omega)]
      rfl
    rw [hone'] at h1
    have hys : ys[j]? = some (ys[j]'(by omega)) := List.getElem?_eq_getElem (by omega)
    refine ⟨_, _, ?_, hys, h1.trans hys⟩
    rw [← Go.Deep.add_add, hcell, hv]
end
theorem list_of {α : Type} {P : Nat → α → Prop} : ∀ n : Nat, (∀ i, i < n → ∃ d, P i d) → ∃ ds : List α, ds.length = n ∧ ∀ i d, ds[i]? = some d → P i d
  | 0, _ => ⟨[], rfl, fun i d h => by simp at h⟩
  | n + 1, h => by
    obtain ⟨ds, hl, hd⟩ := list_of n (fun i hi => h i (Nat.lt_succ_of_lt hi))
    obtain ⟨d, hd'⟩ := h n (Nat.lt_succ_self n)
    refine ⟨ds ++ [d], by simp [hl], fun i x hx => ?_⟩
    rcases Nat.lt_trichotomy i n with e | e | e
    · rw [List.getElem?_append_left (by omega)] at hx
      exact hd i x hx
    · subst e
      rw [List.getElem?_append_right (by omega), hl] at hx
      simp at hx
      exact hx ▸ hd'
    · rw [List.getElem?_append_right (by omega), hl] at hx
      rw [List.getElem?_eq_none (by simp; omega)] at hx
      cases hx
theorem addr_block (a : Addr) (n : Nat) : (a.add n).block = a.block := by unfold Addr.add; split <;> rfl
/-- a cell's address -/
theorem addr_of {w : World} {a : Addr} {v : Value} (h : w.cell? (a.add 0) = some v) : a = ⟨a.block, a.off, none⟩ := by
  obtain ⟨b, o, s⟩ := a
  cases s with
  | none => rfl
  | some s =>
    simp [World.cell?, Addr.add] at h
    split at h <;> cases h
/-- things as they lie -/
def DoAt (w : World) (g off : Nat) (i : Nat) (d : DoV) : Prop :=
  (w.cell? ⟨g, off + i * 5, none⟩ = some (.int .i64 d.kd) ∧ w.cell? ⟨g, off + i * 5 + 1, none⟩ = some (.int .i64 d.a) ∧ w.cell? ⟨g, off + i * 5 + 2, none⟩ = some (.int .i64 d.b) ∧ w.cell? ⟨g, off + i * 5 + 3, none⟩ = some (.int .i64 d.c) ∧ w.cell? ⟨g, off + i * 5 + 4, none⟩ = some (.int .u32 d.ad)) ∧ 0 ≤ d.ad ∧ d.ad < 4294967296
theorem open_dos {H : Type} {enc : TypeId × Value → H} {w : World} {base : Nat} {spare : Nat → Bool} {held : Bool} {fuel : Nat} {A : Option Addr} {len cap : Nat} {x : DataW H × List MemPlace}
    (h : DataW.trod enc Tryd.prog w base spare held fuel 80 [.slice A len cap] = some x) :
    ∃ (ds : List DoV) (g off : Nat), ds.length = len ∧ (ds ≠ [] → A = some ⟨g, off, none⟩ ∧ g < w.heap.size) ∧ ∀ i d, ds[i]? = some d → DoAt w g off i d := by
  rcases open_slice_fields Tryd.underlying80 Tryd.underlying84 (by kernel_rfl) (by kernel_rfl) h with ⟨hcs, _⟩ | ⟨a, len', cap', m, D, Pl, hcs, _, hl, _, hm, _, hi⟩
  · simp at hcs
    obtain ⟨rfl, rfl, rfl⟩ := hcs
    exact ⟨[], 0, 0, rfl, fun h => absurd rfl h, fun i d h => by simp at h⟩
  · simp at hcs
    obtain ⟨rfl, rfl, rfl⟩ := hcs
    have hlm : len ≤ m := by split at hm <;> omega
    have key : ∀ i, i < len → ∃ d : DoV, (w.cell? (a.add (i * 5)) = some (.int .i64 d.kd) ∧ w.cell? (a.add (i * 5 + 1)) = some (.int .i64 d.a) ∧ w.cell? (a.add (i * 5 + 2)) = some (.int .i64 d.b) ∧ w.cell? (a.add (i * 5 + 3)) = some (.int .i64 d.c) ∧ w.cell? (a.add (i * 5 + 4)) = some (.int .u32 d.ad)) ∧ 0 ≤ d.ad ∧ d.ad < 4294967296 := by
      intro i hil
      obtain ⟨ys, n, _, _, _, hf⟩ := hi i (by omega)
      obtain ⟨v0, y0, c0, _, t0⟩ := hf 0 _ rfl
      obtain ⟨v1, y1, c1, _, t1⟩ := hf 1 _ rfl
      obtain ⟨v2, y2, c2, _, t2⟩ := hf 2 _ rfl
      obtain ⟨v3, y3, c3, _, t3⟩ := hf 3 _ rfl
      obtain ⟨v4, y4, c4, _, t4⟩ := hf 4 _ rfl
      obtain ⟨z0, e0, _, _⟩ := DataW.trod_int Tryd.underlying3 t0
      obtain ⟨z1, e1, _, _⟩ := DataW.trod_int Tryd.underlying3 t1
      obtain ⟨z2, e2, _, _⟩ := DataW.trod_int Tryd.underlying3 t2
      obtain ⟨z3, e3, _, _⟩ := DataW.trod_int Tryd.underlying3 t3
      obtain ⟨z4, e4, _, w4⟩ := DataW.trod_int Tryd.underlying34 t4
      simp at e0 e1 e2 e3 e4
      subst e0 e1 e2 e3 e4
      exact ⟨⟨z0, z1, z2, z3, z4⟩, ⟨c0, c1, c2, c3, c4⟩, wf_u32 w4⟩
    obtain ⟨ds, hd, hp⟩ := list_of len key
    by_cases hne : ds = []
    · subst hne
      exact ⟨[], 0, 0, hd, fun h => absurd rfl h, fun i d h => by simp at h⟩
    · have h0 : 0 < len := by
        have := List.length_pos_iff.2 hne
        omega
      obtain ⟨d0, hd0⟩ : ∃ d, ds[0]? = some d := ⟨_, List.getElem?_eq_getElem (by omega)⟩
      have hc0 := (hp 0 d0 hd0).1.1
      rw [Nat.zero_mul] at hc0
      have ha := addr_of hc0
      have hb := World.block_lt_of_cell? w _ hc0
      rw [addr_block] at hb
      refine ⟨ds, a.block, a.off, hd, fun _ => ⟨by rw [← ha], hb⟩, fun i d h => ?_⟩
      have := hp i d h
      rw [ha] at this
      simp only [Addr.add_mid, ← Nat.add_assoc] at this
      exact this
theorem open_l {H : Type} {enc : TypeId × Value → H} {w : World} {base : Nat} {spare : Nat → Bool} {held : Bool} {fuel : Nat} {A : Option Addr} {len cap : Nat} {x : DataW H × List MemPlace}
    (h : DataW.trod enc Tryd.prog w base spare held fuel 62 [.slice A len cap] = some x) :
    ∃ (zs : List Int) (g off : Nat), zs.length = len ∧ len ≤ cap ∧ (zs ≠ [] → A = some ⟨g, off, none⟩ ∧ g < w.heap.size) ∧ ∀ i z, zs[i]? = some z → w.cell? ⟨g, off + i, none⟩ = some (.int .i64 z) := by
  rcases open_ints Tryd.underlying62 Tryd.underlying3 (by kernel_rfl) h with ⟨hcs, _⟩ | ⟨a, len', cap', zs, hcs, _, hl, hm, hz, _, hcell, _⟩
  · simp at hcs
    obtain ⟨rfl, rfl, rfl⟩ := hcs
    exact ⟨[], 0, 0, rfl, Nat.le_refl _, fun h => absurd rfl h, fun i d h => by simp at h⟩
  · simp at hcs
    obtain ⟨rfl, rfl, rfl⟩ := hcs
    have hlm : len ≤ zs.length := by split at hz <;> omega
    have hlen : (zs.take len).length = len := by simp; omega
    by_cases hne : zs.take len = []
    · have : len = 0 := by rw [hne] at hlen; exact hlen.symm
      subst this
      exact ⟨[], 0, 0, rfl, hl, fun h => absurd rfl h, fun i d h => by simp at h⟩
    · have h0 : 0 < len := by
        have := List.length_pos_iff.2 hne
        omega
      have hc0 := hcell 0 (by omega)
      have ha := addr_of hc0
      have hb := World.block_lt_of_cell? w _ hc0
      rw [addr_block] at hb
      refine ⟨zs.take len, a.block, a.off, hlen, hl, fun _ => ⟨by rw [← ha], hb⟩, fun i z hi => ?_⟩
      have h1 := (List.getElem?_eq_some_iff.1 hi).1
      rw [hlen] at h1
      have := hcell i (by omega)
      rw [ha, Addr.add_mid] at this
      rw [this]
      rw [List.getElem?_take_of_lt h1] at hi
      simp [List.getD, hi]
end Go.Proofs.YtdlemkmkheokkaaDoor
