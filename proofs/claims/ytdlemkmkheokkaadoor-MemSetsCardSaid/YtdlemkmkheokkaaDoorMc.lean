/- The way of an address through a store, as a plain function. -/
import Derived.Test.YtdlemkmkheokkaaDoorWj
namespace Go.Proofs.YtdlemkmkheokkaaDoor
open Go.RowKit

/-- does a key that lacks these rights let write? -/
def weakB (r : Int) : Bool := bits .and .i64 r 5 != 0

/-- where a way ends: the place, the fault, the nodes that it goes through -/
structure WR where
  page : Int
  at_ : Int
  ro : Bool
  fault : Int
  nodes : List Int
def walkF (C : SC) : Nat → K → Int → Bool → Int → WR
  | 0, _, _, _, _ => ⟨0, 0, false, 0, []⟩
  | f + 1, k, addr, ro, above =>
    if (memB k && liveS C k) = false then ⟨0, 0, false, 2, []⟩
    else if above ≤ heightF k then ⟨0, 0, false, 5, []⟩
    else if sizeF (heightF k) ≤ addr then ⟨0, 0, false, 3, []⟩
    else if k.kind = 3 then ⟨k.id, addr, ro || weakB k.rights, 0, []⟩
    else
      let r := walkF C f (C.nk k.id.toNat (addr / sizeF (k.data - 1)).toNat) (addr % sizeF (k.data - 1)) (ro || weakB k.rights) k.data
      ⟨r.page, r.at_, r.ro, r.fault, k.id :: r.nodes⟩

section
variable {C : SC} {f : Nat} {k : K} {addr above : Int} {ro : Bool}
theorem walkF_void (h : (memB k && liveS C k) = false) : walkF C (f + 1) k addr ro above = ⟨0, 0, false, 2, []⟩ := by rw [walkF, if_pos h]
theorem walkF_depth (h : (memB k && liveS C k) = true) (h2 : above ≤ heightF k) : walkF C (f + 1) k addr ro above = ⟨0, 0, false, 5, []⟩ := by
  rw [walkF, if_neg (by rw [h]; simp), if_pos h2]
theorem walkF_range (h : (memB k && liveS C k) = true) (h2 : ¬ above ≤ heightF k) (h3 : sizeF (heightF k) ≤ addr) : walkF C (f + 1) k addr ro above = ⟨0, 0, false, 3, []⟩ := by
  rw [walkF, if_neg (by rw [h]; simp), if_neg h2, if_pos h3]
theorem walkF_page (h : (memB k && liveS C k) = true) (h2 : ¬ above ≤ heightF k) (h3 : ¬ sizeF (heightF k) ≤ addr) (h4 : k.kind = 3) : walkF C (f + 1) k addr ro above = ⟨k.id, addr, ro || weakB k.rights, 0, []⟩ := by
  rw [walkF, if_neg (by rw [h]; simp), if_neg h2, if_neg h3, if_pos h4]
theorem walkF_node (h : (memB k && liveS C k) = true) (h2 : ¬ above ≤ heightF k) (h3 : ¬ sizeF (heightF k) ≤ addr) (h4 : k.kind ≠ 3) : walkF C (f + 1) k addr ro above =
    { walkF C f (C.nk k.id.toNat (addr / sizeF (k.data - 1)).toNat) (addr % sizeF (k.data - 1)) (ro || weakB k.rights) k.data with
      nodes := k.id :: (walkF C f (C.nk k.id.toNat (addr / sizeF (k.data - 1)).toNat) (addr % sizeF (k.data - 1)) (ro || weakB k.rights) k.data).nodes } := by
  rw [walkF, if_neg (by rw [h]; simp), if_neg h2, if_neg h3, if_neg h4]
end

/-- the whole way -/
def wayF (C : SC) (k : K) (addr : Int) : WR := walkF C 5 k addr false 5

theorem mem_node {C : SC} {k : K} (h : (memB k && liveS C k) = true) (h4 : k.kind ≠ 3) : k.kind = 2 ∧ 1 ≤ k.data ∧ k.data ≤ 4 ∧ 0 ≤ k.id ∧ k.id < C.nc ∧ C.na.th k.id.toNat = true := by
  simp [memB, h4] at h
  obtain ⟨⟨h2, h5, h6⟩, hl⟩ := h
  simp [liveS, h2, liveB, thereB] at hl
  exact ⟨h2, h5, h6, hl.1.1, hl.1.2.1, hl.1.2.2⟩
theorem sizeF_pos (h : Int) : 32 ≤ sizeF h ∧ sizeF h ≤ 2097152 := by unfold sizeF; repeat' split
                                                                     all_goals omega
theorem sizeF_step (d : Int) (h1 : 1 ≤ d) (h4 : d ≤ 4) : sizeF d = 16 * sizeF (d - 1) := by
  obtain rfl | rfl | rfl | rfl : d = 1 ∨ d = 2 ∨ d = 3 ∨ d = 4 := by omega
  all_goals decide
theorem slot_lt (a d : Int) (h0 : 0 ≤ a) (h1 : 1 ≤ d) (h4 : d ≤ 4) (ha : a < sizeF d) : 0 ≤ a / sizeF (d - 1) ∧ a / sizeF (d - 1) < 16 := by
  have e := sizeF_step d h1 h4
  have hp := sizeF_pos (d - 1)
  refine ⟨Int.ediv_nonneg h0 (by omega), ?_⟩
  rw [e] at ha
  exact Int.ediv_lt_of_lt_mul (by omega) ha

end Go.Proofs.YtdlemkmkheokkaaDoor
