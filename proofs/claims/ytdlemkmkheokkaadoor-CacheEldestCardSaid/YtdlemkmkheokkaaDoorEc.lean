/- turnkeylaw10.CacheEldest: the plain part: what the cache remembers. -/
import Derived.Test.YtdlemkmkheokkaaDoorUa
import Derived.Test.YtdlemkmkheokkaaDoorCs
import Derived.Test.YtdlemkmkheokkaaDoorMg
import Derived.Test.YtdlemkmkheokkaaDoorEb
namespace Go.Proofs.YtdlemkmkheokkaaDoor
open Go.RowKit

abbrev pkE : Nat → K := fun s => ⟨3, s, 0, 0, 0⟩
theorem Fl.pageE {nc pc : Nat} {kk : Nat → K} {n : Nat} {D : SC} (h : Fl nc pc (acPre n) kk n D) (pw : Nat → Nat → Int) : Fl nc pc (acPre (n + 1)) kk n { D with pa := (acPre n).take n, pw := pw } :=
  ⟨h.nc, h.pc, acPre_take n, h.na, h.ks⟩
def cwE (t : Nat) : CW := ⟨kn0, t, [0], t, 0, false⟩
/-- behind i finds, s the cache's size -/
def csE (s i : Nat) : List CW := ((List.range i).drop (i - s)).map cwE
theorem csE_len (s i : Nat) : (csE s i).length = min i s := by simp [csE]; omega
theorem csE_get {s i : Nat} {c : CW} (h : c ∈ csE s i) : ∃ t, i - s ≤ t ∧ t < i ∧ c = cwE t := by
  obtain ⟨t, ht, rfl⟩ := List.mem_map.1 h
  obtain ⟨j, hj, e⟩ := List.getElem_of_mem ht
  simp at hj e
  exact ⟨t, by omega, by omega, rfl⟩
theorem csE_mem {s i t : Nat} (h0 : i - s ≤ t) (h1 : t < i) : cwE t ∈ csE s i := by
  refine List.mem_map.2 ⟨t, ?_, rfl⟩
  refine List.mem_iff_getElem.2 ⟨t - (i - s), by simp; omega, ?_⟩
  simp
  omega
theorem csE_next {s i : Nat} (hs : 1 ≤ s) : roomF s (csE s i) ++ [cwE i] = csE s (i + 1) := by
  unfold roomF
  rw [csE_len]
  have e1 : List.range (i + 1) = List.range i ++ [i] := List.range_succ
  by_cases h : s ≤ i
  · rw [if_pos (by omega)]
    unfold csE
    rw [e1, List.drop_append_of_le_length (by simp; omega), List.map_append, ← List.map_tail, List.tail_drop, show i + 1 - s = i - s + 1 by omega]
    rfl
  · rw [if_neg (by omega)]
    unfold csE
    rw [e1, show i - s = 0 by omega, show i + 1 - s = 0 by omega]
    simp
section
variable {D : SC} {n s : Nat}
theorem way_e (h : Fl 1 16 (acPre n) pkE n D) (t : Nat) (ht : t < n) (hn : n ≤ 16) (a : Int) (ha : a / 32 = t) : wayF D kn0 a = ⟨t, a % 32, false, 0, [0]⟩ :=
  slot_page ⟨by rw [h.nc]; omega, by rw [h.na]; exact acPre_th 1 0 (by omega), by rw [h.na]; rfl⟩ t t (by omega) a ha (h.ks t ht) (by rw [h.pc]; omega) (by rw [h.pa]; exact acPre_th n t ht) (by rw [h.pa]; rfl)
/-- the i-th is found anew -/
theorem find_new (h : Fl 1 16 (acPre n) pkE n D) (hs : 1 ≤ s) (i : Nat) (hi : i < n) (hn : n ≤ 16) : findF D s (csE s i) kn0 (32 * i) = (⟨i, 0, false, 0⟩, false, csE s (i + 1)) := by
  have e : (csE s i).find? (hitB kn0 ((32 * (i : Int)) / 32)) = none := by
    refine List.find?_eq_none.2 fun c hc => ?_
    obtain ⟨t, h0, h1, rfl⟩ := csE_get hc
    have : ((t : Int) == (32 * (i : Int)) / 32) = false := by simp; omega
    show ¬ (((t : Int) == _) && eqK kn0 kn0) = true
    rw [this]
    decide
  unfold findF
  rw [e]
  dsimp only
  rw [way_e h i hi hn (32 * i) (by omega)]
  simp only [if_true]
  rw [show (32 * (i : Int)) / 32 = i by omega, show (32 * (i : Int)) % 32 = 0 by omega]
  rw [← csE_next hs]
  rfl
/-- beyond what is there -/
theorem find_far (h : Fl 1 16 (acPre n) pkE n D) (hn : n ≤ 16) : findF D s (csE s n) kn0 600 = (⟨0, 0, false, 3⟩, false, csE s n) := by
  have e : (csE s n).find? (hitB kn0 ((600 : Int) / 32)) = none := by
    refine List.find?_eq_none.2 fun c hc => ?_
    obtain ⟨t, h0, h1, rfl⟩ := csE_get hc
    have : ((t : Int) == 600 / 32) = false := by simp; omega
    show ¬ (((t : Int) == _) && eqK kn0 kn0) = true
    rw [this]
    decide
  have ml : (memB kn0 && liveS D kn0) = true := by
    simp [memB, liveS, liveB, thereB, kn0, h.nc, h.na, acPre, pre]
  have w : wayF D kn0 600 = ⟨0, 0, false, 3, []⟩ := by
    unfold wayF
    rw [walkF_range ml (by decide) (by decide)]
  unfold findF
  rw [e, w]
  rfl
/-- what is remembered is found -/
theorem find_old (i : Nat) (h0 : n - s ≤ i) (h1 : i < n) : findF D s (csE s n) kn0 (32 * i + 5) = (⟨i, 5, false, 0⟩, true, csE s n) := by
  obtain ⟨c, hc, hmem, hq⟩ : ∃ c, (csE s n).find? (hitB kn0 ((32 * (i : Int) + 5) / 32)) = some c ∧ c ∈ csE s n ∧ hitB kn0 ((32 * (i : Int) + 5) / 32) c = true := by
    cases e : (csE s n).find? (hitB kn0 ((32 * (i : Int) + 5) / 32)) with
    | some c => exact ⟨c, rfl, List.mem_of_find?_eq_some e, List.find?_some e⟩
    | none =>
      exfalso
      have := List.find?_eq_none.1 e (cwE i) (csE_mem h0 h1)
      have e2 : ((i : Int) == (32 * (i : Int) + 5) / 32) = true := by simp; omega
      have e3 : eqK kn0 kn0 = true := by decide
      simp [hitB, cwE, e2, e3] at this
  obtain ⟨t, _, _, rfl⟩ := csE_get hmem
  simp only [hitB, Bool.and_eq_true, beq_iff_eq] at hq
  have ht : t = i := by
    have : (t : Int) = (32 * (i : Int) + 5) / 32 := hq.1
    omega
  subst ht
  unfold findF
  rw [hc]
  show ((⟨(t : Int), (32 * (t : Int) + 5) % 32, false, 0⟩ : FR), true, csE s n) = _
  rw [show (32 * (t : Int) + 5) % 32 = 5 by omega]
end
end Go.Proofs.YtdlemkmkheokkaaDoor
