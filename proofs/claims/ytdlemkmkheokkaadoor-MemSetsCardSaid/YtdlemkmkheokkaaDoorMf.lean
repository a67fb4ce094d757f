/- Small facts on bits; the chain of nodes of PathRights. -/
import Derived.Test.YtdlemkmkheokkaaDoorWn
import Derived.Test.YtdlemkmkheokkaaDoorMe
namespace Go.Proofs.YtdlemkmkheokkaaDoor
open Go.RowKit

theorem and3 (n : Int) : bits .and .i64 n 3 = n % 4 := by
  have h : (BitVec.ofInt 64 3).toNat = 2 ^ 2 - 1 := by decide
  have key : (BitVec.ofInt 64 n &&& BitVec.ofInt 64 3).toNat = (n % ((2 ^ 64 : Nat) : Int)).toNat % 2 ^ 2 := by
    rw [BitVec.toNat_and, BitVec.toNat_ofInt, h, Nat.and_two_pow_sub_one_eq_mod]
  show IntKind.i64.wrap ((BitVec.ofInt 64 n &&& BitVec.ofInt 64 3).toNat : Nat) = n % 4
  rw [key, IntKind.wrap_i64]
  omega
theorem and7 (n : Int) : bits .and .i64 n 7 = n % 8 := by
  have h : (BitVec.ofInt 64 7).toNat = 2 ^ 3 - 1 := by decide
  have key : (BitVec.ofInt 64 n &&& BitVec.ofInt 64 7).toNat = (n % ((2 ^ 64 : Nat) : Int)).toNat % 2 ^ 3 := by
    rw [BitVec.toNat_and, BitVec.toNat_ofInt, h, Nat.and_two_pow_sub_one_eq_mod]
  show IntKind.i64.wrap ((BitVec.ofInt 64 n &&& BitVec.ofInt 64 7).toNat : Nat) = n % 8
  rw [key, IntKind.wrap_i64]
  omega
theorem and15 (n : Int) : bits .and .i64 n 15 = n % 16 := by
  have h : (BitVec.ofInt 64 15).toNat = 2 ^ 4 - 1 := by decide
  have key : (BitVec.ofInt 64 n &&& BitVec.ofInt 64 15).toNat = (n % ((2 ^ 64 : Nat) : Int)).toNat % 2 ^ 4 := by
    rw [BitVec.toNat_and, BitVec.toNat_ofInt, h, Nat.and_two_pow_sub_one_eq_mod]
  show IntKind.i64.wrap ((BitVec.ofInt 64 n &&& BitVec.ofInt 64 15).toNat : Nat) = n % 16
  rw [key, IntKind.wrap_i64]
  omega
theorem ofInt_mod8 (n : Int) : BitVec.ofInt 64 (n % 8) = BitVec.ofInt 64 n &&& BitVec.ofInt 64 7 := by
  apply BitVec.eq_of_toNat_eq
  have h : (BitVec.ofInt 64 7).toNat = 2 ^ 3 - 1 := by decide
  rw [BitVec.toNat_and, BitVec.toNat_ofInt, BitVec.toNat_ofInt, h, Nat.and_two_pow_sub_one_eq_mod]
  omega
theorem weak_mod8 (n : Int) : weakB (n % 8) = weakB n := by
  unfold weakB
  have e : bits .and .i64 (n % 8) 5 = bits .and .i64 n 5 := by
    show IntKind.i64.wrap ((BitVec.ofInt 64 (n % 8) &&& BitVec.ofInt 64 5).toNat : Nat) = IntKind.i64.wrap ((BitVec.ofInt 64 n &&& BitVec.ofInt 64 5).toNat : Nat)
    rw [ofInt_mod8, BitVec.and_assoc, show (BitVec.ofInt 64 7 &&& BitVec.ofInt 64 5) = BitVec.ofInt 64 5 by decide]
  rw [e]
theorem weak_zero : weakB 0 = false := by decide

/-! ### PathRights: node i has, in its first slot, the key of what was made ahead of it, with rights -/
def chainK (rr : Nat → Int) : Nat → K
  | 0 => ⟨3, 0, 0, rr 0, 0⟩
  | i + 1 => ⟨2, i, 0, rr (i + 1), i + 1⟩
def roU (rr : Nat → Int) : Nat → Bool
  | 0 => weakB (rr 0)
  | i + 1 => weakB (rr (i + 1)) || roU rr i

theorem sizeF_5 (h : Int) : (5 : Int) / sizeF h = 0 ∧ (5 : Int) % sizeF h = 5 := by
  have := sizeF_pos h
  exact ⟨Int.ediv_eq_zero_of_lt (by omega) (by omega), Int.emod_eq_of_lt (by omega) (by omega)⟩

theorem chain_way (C : SC) (rr : Nat → Int) (d : Nat) (hd : d ≤ 3) (hn : d < C.nc) (hp : 0 < C.pc) (hna : ∀ i, i ≤ d → C.na.th i = true ∧ C.na.ve i = 0) (hpa : C.pa.th 0 = true ∧ C.pa.ve 0 = 0)
    (hk : ∀ i, i ≤ d → C.nk i 0 = chainK rr i) : ∀ (j : Nat), j ≤ d → ∀ (f : Nat) (ro : Bool) (above rk : Int), j + 2 ≤ f → (j : Int) + 1 < above →
      (walkF C f ⟨2, j, 0, rk, j + 1⟩ 5 ro above).same ⟨0, 5, (ro || weakB rk) || roU rr j, 0, []⟩ := by
  intro j
  induction j with
  | zero =>
    intro hj f ro above rk hf ha
    obtain ⟨f, rfl⟩ : ∃ m, f = m + 2 := ⟨f - 2, by omega⟩
    obtain ⟨h1, h2⟩ := hna 0 (by omega)
    have ml : (memB ⟨2, (0 : Nat), 0, rk, (0 : Nat) + 1⟩ && liveS C ⟨2, (0 : Nat), 0, rk, (0 : Nat) + 1⟩) = true := by
      simp [memB, liveS, liveB, thereB, h1, h2]; omega
    have mp : (memB ⟨3, 0, 0, rr 0, 0⟩ && liveS C ⟨3, 0, 0, rr 0, 0⟩) = true := by
      simp [memB, liveS, liveB, thereB, hpa.1, hpa.2, hp]
    rw [walkF_node ml (by simp [heightF]; omega) (by simp [heightF]; have := sizeF_pos 1; omega) (by simp)]
    simp only [Int.toNat_natCast, sizeF_5, Int.toNat_zero]
    rw [hk 0 (by omega), chainK, walkF_page mp (by simp [heightF]) (by simp [heightF]; have := sizeF_pos 0; omega) rfl]
    exact ⟨rfl, rfl, rfl, rfl⟩
  | succ j ih =>
    intro hj f ro above rk hf ha
    obtain ⟨f, rfl⟩ : ∃ m, f = m + 1 := ⟨f - 1, by omega⟩
    obtain ⟨h1, h2⟩ := hna (j + 1) hj
    have ml : (memB ⟨2, (j + 1 : Nat), 0, rk, (j + 1 : Nat) + 1⟩ && liveS C ⟨2, (j + 1 : Nat), 0, rk, (j + 1 : Nat) + 1⟩) = true := by
      simp [memB, liveS, liveB, thereB]
      refine ⟨⟨by omega, by omega⟩, ⟨by omega, by omega, ?_⟩, ?_⟩
      · exact h1
      · exact h2
    rw [walkF_node ml (by simp [heightF]; omega) (by simp [heightF]; have := sizeF_pos ((j : Int) + 1 + 1); omega) (by simp)]
    simp only [Int.toNat_natCast, sizeF_5, Int.toNat_zero]
    rw [hk (j + 1) hj, chainK]
    have := ih (by omega) f (ro || weakB rk) ((j + 1 : Nat) + 1) (rr (j + 1)) (by omega) (by omega)
    obtain ⟨a, b, c, e⟩ := this
    refine ⟨a, b, ?_, e⟩
    show (walkF C f _ 5 _ _).ro = _
    rw [c]
    show ((ro || weakB rk) || weakB (rr (j + 1)) || roU rr j) = ((ro || weakB rk) || (weakB (rr (j + 1)) || roU rr j))
    rw [Bool.or_assoc]

end Go.Proofs.YtdlemkmkheokkaaDoor
