/- Contracts of path's memory, height, size and Size. -/
import Derived.Test.YtdlemkmkheokkaaDoorWi
namespace Go.Proofs.YtdlemkmkheokkaaDoor
open Go.RowKit

def memB (k : K) : Bool := decide (k.kind = 3) || (decide (k.kind = 2) && (decide (1 ≤ k.data) && decide (k.data ≤ 4)))
def heightF (k : K) : Int := if k.kind = 3 then 0 else k.data
def sizeF (h : Int) : Int := if h = 0 then 32 else if h = 1 then 512 else if h = 2 then 8192 else if h = 3 then 131072 else 2097152

set_option maxHeartbeats 400000 in
theorem memory_any (k : K) (w : World) : Calls Tryd.prog 60 #[k.v] w (BoolBelow w (memB k)) := by
  by_cases h3 : k.kind = 3
  · have e : memB k = true := by simp [memB, h3]
    rw [e]; clear e
    have e3 : (k.kind == 3) = true := by simpa using h3
    clear h3
    go_enter Tryd.func60, Tryd.ntmps60
    go_wp2
    go_ret
    exact ⟨rfl, (Below.refl _ _).alloc (Nat.le_refl _) _⟩
  · have e3 : (k.kind == 3) = false := by simpa using h3
    by_cases h2 : k.kind = 2
    · have e2 : (k.kind == 2) = true := by simpa using h2
      by_cases h1 : 1 ≤ k.data
      · have e : memB k = decide (k.data ≤ 4) := by simp [memB, h2, h1]
        rw [e]; clear e h3 h2
        go_enter Tryd.func60, Tryd.ntmps60
        go_wp2
        go_ret
        exact ⟨rfl, (Below.refl _ _).alloc (Nat.le_refl _) _⟩
      · have e : memB k = false := by simp [memB, h2, h1]
        rw [e]; clear e h3 h2
        go_enter Tryd.func60, Tryd.ntmps60
        go_wp2
        go_ret
        exact ⟨rfl, (Below.refl _ _).alloc (Nat.le_refl _) _⟩
    · have e2 : (k.kind == 2) = false := by simpa using h2
      have e : memB k = false := by simp [memB, h2, h3]
      rw [e]; clear e h3 h2
      go_enter Tryd.func60, Tryd.ntmps60
      go_wp2
      go_ret
      exact ⟨rfl, (Below.refl _ _).alloc (Nat.le_refl _) _⟩

def U32Below (w : World) (n : Int) (e : Ending) (w' : World) : Prop := e = .returned (.int .u32 n) ∧ Below w.heap.size w w'

set_option maxHeartbeats 400000 in
theorem height_any (k : K) (w : World) : Calls Tryd.prog 62 #[k.v] w (U32Below w (heightF k)) := by
  by_cases h3 : k.kind = 3
  · have e : heightF k = 0 := by simp [heightF, h3]
    rw [e]; clear e
    have e3 : (k.kind == 3) = true := by simpa using h3
    clear h3
    go_enter Tryd.func62, Tryd.ntmps62
    go_wp2
    go_ret
    exact ⟨rfl, (Below.refl _ _).alloc (Nat.le_refl _) _⟩
  · have e : heightF k = k.data := by simp [heightF, h3]
    rw [e]; clear e
    have e3 : (k.kind == 3) = false := by simpa using h3
    clear h3
    go_enter Tryd.func62, Tryd.ntmps62
    go_wp2
    go_ret
    exact ⟨rfl, (Below.refl _ _).alloc (Nat.le_refl _) _⟩

set_option maxHeartbeats 400000 in
theorem size_any (h : Int) (w : World) (h0 : 0 ≤ h) (h4 : h ≤ 4) : Calls Tryd.prog 61 #[.int .u32 h] w fun e w' => e = .returned (.int .u32 (sizeF h)) ∧ w = w' := by
  obtain rfl | rfl | rfl | rfl | rfl : h = 0 ∨ h = 1 ∨ h = 2 ∨ h = 3 ∨ h = 4 := by omega
  all_goals
    go_enter Tryd.func61, Tryd.ntmps61
    go_wp2
    go_ret
    exact ⟨rfl, rfl⟩

def SizeBelow (w : World) (k : K) (e : Ending) (w' : World) : Prop := e = .returned (.tuple #[.int .u32 (sizeF (heightF k)), .bool true]) ∧ Below w.heap.size w w'
set_option maxHeartbeats 400000 in
theorem psize_yes (k : K) (w : World) (hm : memB k = true) : Calls Tryd.prog 25 #[k.v] w (SizeBelow w k) := by
  have h04 : 0 ≤ heightF k ∧ heightF k ≤ 4 := by
    unfold heightF
    by_cases h3 : k.kind = 3
    · rw [if_pos h3]; omega
    · rw [if_neg h3]; simp [memB, h3] at hm; omega
  obtain ⟨h0, h4⟩ := h04
  have mt := fun W => memory_any k W
  rw [hm] at mt
  have MT := Lib.hid mt
  have HT := Lib.hid (fun W => height_any k W)
  have SZ := Lib.hid (fun W => size_any (heightF k) W h0 h4)
  clear mt hm h0 h4
  go_enter Tryd.func25, Tryd.ntmps25
  go_wp2_with (fail)
  go_at_call 60
  refine (MT.out _).mono ?_
  rintro e w1 ⟨rfl, hb1⟩
  have hs1 := hb1.size
  simp only [World.size_alloc] at hs1
  have bx := (k.box w 36).below hb1
  have b0 := bx.cell 0 (by omega)
  have b1 := bx.cell 1 (by omega)
  have b2 := bx.cell 2 (by omega)
  have b3 := bx.cell 3 (by omega)
  have b4 := bx.cell 4 (by omega)
  simp only [K.cell] at b0 b1 b2 b3 b4
  have HB1 := Lib.hid hb1
  clear hb1 bx
  go_wp2_with (fail)
  go_at_call 62
  refine (HT.out _).mono ?_
  rintro e w2 ⟨rfl, hb2⟩
  have HB2 := Lib.hid hb2
  clear hb2
  go_wp2_with (fail)
  go_at_call 61
  refine (SZ.out _).mono ?_
  rintro e w' ⟨rfl, rfl⟩
  go_wp2
  go_ret2
  exact ⟨rfl, (((Below.refl _ w).alloc (Nat.le_refl _) _).trans (HB1.out.mono (by simp))).trans (HB2.out.mono (by omega))⟩

end Go.Proofs.YtdlemkmkheokkaaDoor
