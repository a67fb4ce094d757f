/- Contracts of the arena's functions, of key's small ones, of the statements' Number. -/
import Derived.Test.YtdlemkmkheokkaaDoorRows
import Derived.Test.YtdlemkmkheokkaaDoorMa
import Derived.BigQuiet
import Derived.Lib.Hide
import Derived.Deep.RegionHeld3
import Derived.Deep.MidRow
namespace Go.Proofs.YtdlemkmkheokkaaDoor
open Go.RowKit

/-- a callee that leaves the world alone, in a region that draws -/
theorem quiet_eq {P : Program} {f : FuncId} {args : Array Value} {w : World} {n : Nat} {v : Value}
    (h : Calls P f args (w.drewN n) fun e w' => e = .returned v ∧ w.drewN n = w') : Calls P f args (w.drewN n) fun e w'' => e = .returned v ∧ ∃ m, w'' = w.drewN m :=
  h.mono fun _ _ ⟨he, hm⟩ => ⟨he, n, hm.symm⟩

def thereB (n : Nat) (th : Nat → Bool) (id : Int) : Bool := decide (0 ≤ id) && (decide (id < n) && th id.toNat)

set_option maxHeartbeats 400000 in
theorem there_any (a l n : Nat) (c : AC) (id : Int) (w : World) (h : Ar w a l n c) (_hn : n ≤ 1000) :
    Calls Tryd.prog 53 #[.pointer (some ⟨a, 0, none⟩), .int .i64 id] w fun e w' => e = .returned (.bool (thereB n c.th id)) ∧ w = w' := by
  have h1 := h.head
  by_cases h0 : 0 ≤ id
  · obtain ⟨i, rfl⟩ := Int.eq_ofNat_of_zero_le h0
    by_cases hlt : i < n
    · have hc := h.th i hlt
      clear h
      have e : thereB n c.th i = c.th i := by simp [thereB, hlt]
      rw [e]; clear e
      go_enter Tryd.func53, Tryd.ntmps53
      go_wp2
      go_ret
      exact ⟨rfl, rfl⟩
    · clear h
      have e : thereB n c.th i = false := by simp [thereB, hlt]
      rw [e]; clear e
      go_enter Tryd.func53, Tryd.ntmps53
      go_wp2
      go_ret
      exact ⟨rfl, rfl⟩
  · clear h
    have e : thereB n c.th id = false := by simp [thereB, h0]
    rw [e]; clear e
    go_enter Tryd.func53, Tryd.ntmps53
    go_wp2
    go_ret
    exact ⟨rfl, rfl⟩

def liveB (n : Nat) (c : AC) (id ver : Int) : Bool := thereB n c.th id && (c.ve id.toNat == ver)

set_option maxHeartbeats 400000 in
theorem live_any (a l n : Nat) (c : AC) (id ver : Int) (w : World) (h : Ar w a l n c) (hn : n ≤ 1000) :
    Calls Tryd.prog 94 #[.pointer (some ⟨a, 0, none⟩), .int .i64 id, .int .i64 ver] w fun e w' => e = .returned (.bool (liveB n c id ver)) ∧ w = w' := by
  have h1 := h.head
  have ct := there_any a l n c id w h hn
  by_cases hb : thereB n c.th id = true
  · have h0 : 0 ≤ id ∧ id < n := by unfold thereB at hb; simp at hb; omega
    obtain ⟨h0, hlt⟩ := h0
    obtain ⟨i, rfl⟩ := Int.eq_ofNat_of_zero_le h0
    have hc := h.ve i (by omega)
    clear h
    have e : liveB n c i ver = (c.ve i == ver) := by simp [liveB, hb]
    rw [e]; clear e
    have CT := Lib.hid ct
    clear ct
    go_enter Tryd.func94, Tryd.ntmps94
    go_wp2_with (go_at_call 53; refine (CT.out).mono ?_; rintro e w' ⟨rfl, rfl⟩)
    go_ret
    exact ⟨rfl, rfl⟩
  · have hb' : thereB n c.th id = false := by simpa using hb
    clear hb h
    have e : liveB n c id ver = false := by simp [liveB, hb']
    rw [e]; clear e
    have CT := Lib.hid ct
    clear ct
    go_enter Tryd.func94, Tryd.ntmps94
    go_wp2_with (go_at_call 53; refine (CT.out).mono ?_; rintro e w' ⟨rfl, rfl⟩)
    go_ret
    exact ⟨rfl, rfl⟩

set_option maxHeartbeats 400000 in
theorem ver_any (a l n : Nat) (c : AC) (i : Nat) (w : World) (h : Ar w a l n c) (_hn : n ≤ 1000) (hi : i < n) :
    Calls Tryd.prog 54 #[.pointer (some ⟨a, 0, none⟩), .int .i64 i] w fun e w' => e = .returned (.int .i64 (c.ve i)) ∧ w = w' := by
  have h1 := h.head
  have hc := h.ve i hi
  clear h
  go_enter Tryd.func54, Tryd.ntmps54
  go_wp2
  go_ret
  exact ⟨rfl, rfl⟩

/-! ### Number -/
def numB (n : Int) (b : Int) : Int := if n.tmod b < 0 then n.tmod b + b else n.tmod b
theorem numB_range (n b : Int) (h : 0 < b) : 0 ≤ numB n b ∧ numB n b < b := by
  unfold numB
  have h1 := Int.tmod_lt_of_pos n h
  have h2 : -b < n.tmod b := Int.lt_tmod_of_pos n h
  split <;> omega

set_option maxHeartbeats 400000 in
theorem number_any (n b : Int) (w : World) (hb : 0 < b) (hb2 : b ≤ 1000) :
    Calls Tryd.prog 26 #[.int .i64 n, .int .i64 b] w fun e w' => e = .returned (.int .i64 (numB n b)) ∧ w = w' := by
  have g1 := Int.tmod_lt_of_pos n hb
  have g2 : -b < n.tmod b := Int.lt_tmod_of_pos n hb
  by_cases h : n.tmod b < 0
  · have e : numB n b = n.tmod b + b := by simp [numB, h]
    rw [e]; clear e
    go_enter Tryd.func26, Tryd.ntmps26
    go_wp2
    go_ret
    exact ⟨rfl, rfl⟩
  · have e : numB n b = n.tmod b := by simp [numB, h]
    rw [e]; clear e
    go_enter Tryd.func26, Tryd.ntmps26
    go_wp2
    go_ret
    exact ⟨rfl, rfl⟩
end Go.Proofs.YtdlemkmkheokkaaDoor
