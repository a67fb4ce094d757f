/- turnkeysee.Is of ErrRange; cache.New that fails. -/
import Derived.Test.YtdlemkmkheokkaaDoorEa
import Derived.BigQuiet
import Derived.Deep.RegionHeld3
namespace Go.Proofs.YtdlemkmkheokkaaDoor
open Go.RowKit

theorem sentinel_range (a : Nat → Addr) (W : World) (h : Errs W a) : Calls Tryd.prog 97 #[.iface 188 (.pointer (some (a 2)))] W (fun e W' => e = .returned (.int .i64 103) ∧ Below W.heap.size W W') := by
  have SL := Lib.hid (sentinels_any a W h)
  have H := Lib.hid h
  clear h
  go_enter Tryd.func97, Tryd.ntmps97
  go_wp2_with (fail)
  go_at_call 105
  refine (SL.out).mono ?_
  rintro e w1 ⟨rfl, hr, hb⟩
  have R := Lib.hid hr
  have B := Lib.hid hb
  have E1 := Lib.hid (H.out.below hb)
  clear hr hb SL H
  go_wp2_with (fail)
  go_loopw [4] (fun t wr => ∃ i : Nat, i ≤ 2 ∧ t = .int .i64 i ∧ wr = w1) (fun t _ => 3 - (intOf t).toNat)
  case atStart => exact ⟨0, by omega, rfl, rfl⟩
  case round =>
    obtain ⟨i, hi, rfl, rfl⟩ := hrel
    obtain ⟨b2, b2t, hb2⟩ := E1.out.b 2 (by omega)
    obtain ⟨b4, b4t, hb4⟩ := E1.out.b 4 (by omega)
    obtain ⟨b6, b6t, hb6⟩ := E1.out.b 6 (by omega)
    rcases (by omega : i = 0 ∨ i = 1 ∨ i = 2) with rfl | rfl | rfl
    · have c : wr.cell? ⟨W.heap.size, 0, none⟩ = some (.iface 188 (.pointer (some (a 6)))) := R.out.cell 0 (by omega)
      have AL := Lib.hid (alike_other (a 2) (a 6) wr E1.out.n1.symm _ _ _ _ hb2 hb6)
      clear hb2 hb4 hb6
      go_wp2_with (first | (go_at_call 106; refine (AL.out).mono ?_; rintro e w' ⟨rfl, rfl⟩))
      go_roundw
      case rel => exact ⟨1, by omega, by go_num, trivial⟩
      case measure => simp [intOf]
    · have c : wr.cell? ⟨W.heap.size, 1, none⟩ = some (.iface 188 (.pointer (some (a 4)))) := R.out.cell 1 (by omega)
      have AL := Lib.hid (alike_other (a 2) (a 4) wr E1.out.n2.symm _ _ _ _ hb2 hb4)
      clear hb2 hb4 hb6
      go_wp2_with (first | (go_at_call 106; refine (AL.out).mono ?_; rintro e w' ⟨rfl, rfl⟩))
      go_roundw
      case rel => exact ⟨2, by omega, by go_num, trivial⟩
      case measure => simp [intOf]
    · have c : wr.cell? ⟨W.heap.size, 2, none⟩ = some (.iface 188 (.pointer (some (a 2)))) := R.out.cell 2 (by omega)
      have AL := Lib.hid (alike_same (a 2) wr)
      clear hb2 hb4 hb6
      go_wp2_with (first | (go_at_call 106; refine (AL.out).mono ?_; rintro e w' ⟨rfl, rfl⟩))
      go_ret
      exact ⟨rfl, B.out⟩
theorem zero165 : (Tryd.prog.info? 165).map (·.zero) = some (some (.pointer none)) := by kernel_rfl
theorem assert_at (v : Value) (W : World) : (Instr.typeAssert (.iface 188 v) 25 165 true).run Tryd.prog W = .ok (.tuple #[.pointer none, .bool false]) W := by
  obtain ⟨j, hj, hz⟩ := Option.map_eq_some_iff.1 zero165
  simp [Instr.typeAssert, run_underlying Tryd.underlying165, typeInfo, zeroValue, hj, hz]
attribute [local go_sem] assert_at
/-- a fault's cells -/
def faC (n : Int) : Nat → Value
  | 0 => .int .i64 n
  | 1 => .bool false
  | _ => .int .i64 0
set_option maxRecDepth 100000 in
theorem fault_range (a : Nat → Addr) (W : World) (h : Errs W a) : Calls Tryd.prog 86 #[.iface 188 (.pointer (some (a 2)))] W (fun e W' => e = .returned (.agg #[.int .i64 103, .bool false, .int .i64 0]) ∧ Below W.heap.size W W') := by
  have SR := Lib.hid (fun W' (b : Below W.heap.size W W') => sentinel_range a W' (h.below b))
  have BA := Lib.hid (fun W' => bare_any 103 W')
  have i25 := iface25
  clear h
  go_enter Tryd.func86, Tryd.ntmps86
  go_wp2_with (fail)
  go_at_call 97
  refine (SR.out _ ((Below.refl _ _).alloc (Nat.le_refl _) _)).mono ?_
  rintro e w1 ⟨rfl, hb1⟩
  have r1 : Row w1 W.heap.size 3 (faC 0) := (Row.new W #[.int .i64 0, .bool false, .int .i64 0] 128 3 (faC 0) rfl (fun i hi => by rcases (by omega : i = 0 ∨ i = 1 ∨ i = 2) with rfl | rfl | rfl <;> rfl)).below hb1
  have B1 := Lib.hid ((((Below.refl W.heap.size W).alloc (Nat.le_refl _) (.cells #[.int .i64 0, .bool false, .int .i64 0] 128)).trans (hb1.mono (by simp))))
  have R1 := Lib.hid r1
  clear hb1 r1 SR
  go_wp2_with (fail)
  go_at_call 72
  refine (BA.out _).mono ?_
  rintro e w2 ⟨rfl, hb2⟩
  have r2 : Row w2 W.heap.size 3 (faC 0) := R1.out.below hb2
  have B2 := Lib.hid (B1.out.trans (hb2.mono B1.out.size))
  have c0 : w2.cell? ⟨W.heap.size, 0, none⟩ = some (.int .i64 0) := r2.cell 0 (by omega)
  have c1 : w2.cell? ⟨W.heap.size, 1, none⟩ = some (.bool false) := r2.cell 1 (by omega)
  have c2 : w2.cell? ⟨W.heap.size, 2, none⟩ = some (.int .i64 0) := r2.cell 2 (by omega)
  have f0 := r2.frozen 0
  have f1 := r2.frozen 1
  have f2 := r2.frozen 2
  have l2 := r2.lt
  clear hb2 r2 R1
  go_wp2
  exact bodyPost_ret (v := .agg #[.int .i64 103, .bool false, .int .i64 0]) (by simp [results, Tryd.results86, go_sem, *]) rfl ⟨rfl, ((B2.out.setCell (p := ⟨W.heap.size, 0, none⟩) (Nat.le_refl _) _).setCell (p := ⟨W.heap.size, 1, none⟩) (Nat.le_refl _) _).setCell (p := ⟨W.heap.size, 2, none⟩) (Nat.le_refl _) _⟩
theorem is_range (a : Nat → Addr) (W : World) (h : Errs W a) : Calls Tryd.prog 43 #[.iface 188 (.pointer (some (a 2))), .int .i64 103] W (fun e W' => e = .returned (.bool true) ∧ Below W.heap.size W W') := by
  have BA := Lib.hid (bare_any 103 W)
  have SM : Hid (∀ W' : World, Below W.heap.size W W' → Calls Tryd.prog 71 #[.iface 188 (.pointer (some (a 2))), .agg #[.int .i64 103, .bool false, .int .i64 0]] W' (fun e W'' => e = .returned (.bool true) ∧ Below W'.heap.size W' W'')) := by
    intro W' b
    have h' := h.below b
    have FR := Lib.hid (fun V (b : Below W'.heap.size W' V) => fault_range a V (h'.below b))
    have SF := Lib.hid (fun V => same_fault 103 V)
    clear BA h h' b
    go_enter Tryd.func71, Tryd.ntmps71
    go_wp2_with (fail)
    have R0 := Lib.hid (show Row (W'.alloc (.cells #[.int .i64 103, .bool false, .int .i64 0] 128)).drew W'.heap.size 3 (faC 103) from (Row.new W' #[.int .i64 103, .bool false, .int .i64 0] 128 3 (faC 103) rfl (fun i hi => by rcases (by omega : i = 0 ∨ i = 1 ∨ i = 2) with rfl | rfl | rfl <;> rfl)).of_block rfl)
    have B0 := Lib.hid (show Below W'.heap.size W' (W'.alloc (.cells #[.int .i64 103, .bool false, .int .i64 0] 128)).drew from ((Below.refl _ _).alloc (Nat.le_refl _) _).drew)
    go_region_held3 (fun V => V.cell? ⟨W'.heap.size, 0, none⟩ = some (.int .i64 103) ∧ V.cell? ⟨W'.heap.size, 1, none⟩ = some (.bool false) ∧ V.cell? ⟨W'.heap.size, 2, none⟩ = some (.int .i64 0))
      (first | exact ⟨c0, c1, c2⟩ | go_keep)
      ((first | (go_at_call 86; refine (FR.out _ B0.out).mono ?_; rintro e w1 ⟨rfl, hb1⟩; have c0 : w1.cell? ⟨W'.heap.size, 0, none⟩ = some (.int .i64 103) := (R0.out.below hb1).cell 0 (by omega); have c1 : w1.cell? ⟨W'.heap.size, 1, none⟩ = some (.bool false) := (R0.out.below hb1).cell 1 (by omega); have c2 : w1.cell? ⟨W'.heap.size, 2, none⟩ = some (.int .i64 0) := (R0.out.below hb1).cell 2 (by omega); have R1 := Lib.hid (R0.out.below hb1); have B1 := Lib.hid (B0.out.trans (hb1.mono B0.out.size)); clear hb1) | (go_at_call 85; refine (SF.out _).mono ?_; rintro e w2 ⟨rfl, hb2⟩; have c0 : w2.cell? ⟨W'.heap.size, 0, none⟩ = some (.int .i64 103) := (R1.out.below hb2).cell 0 (by omega); have c1 : w2.cell? ⟨W'.heap.size, 1, none⟩ = some (.bool false) := (R1.out.below hb2).cell 1 (by omega); have c2 : w2.cell? ⟨W'.heap.size, 2, none⟩ = some (.int .i64 0) := (R1.out.below hb2).cell 2 (by omega); have B2 := Lib.hid (B1.out.trans (hb2.mono B1.out.size)); clear hb2)))
    go_wp2
    go_ret
    exact ⟨rfl, B2.out⟩
  clear h
  go_enter Tryd.func43, Tryd.ntmps43
  go_wp2_with (fail)
  go_at_call 72
  refine (BA.out).mono ?_
  rintro e w1 ⟨rfl, hb1⟩
  have B1 := Lib.hid hb1
  clear hb1
  go_wp2_with (fail)
  go_at_call 71
  refine (SM.out _ B1.out).mono ?_
  rintro e w2 ⟨rfl, hb2⟩
  have B2 := Lib.hid (B1.out.trans (hb2.mono B1.out.size))
  clear hb2
  go_wp2
  go_ret
  exact ⟨rfl, B2.out⟩
theorem below_drewN' (W : World) : ∀ n, Below W.heap.size W (W.drewN n) := fun _ => ⟨rfl, rfl, rfl, Nat.le_refl _, fun _ _ => rfl⟩
/-- cache.New out of its range -/
theorem cache_range (size : Int) (a : Nat → Addr) (W : World) (h : Errs W a) (hs : size < 1 ∨ 64 < size) : Calls Tryd.prog 39 #[.int .i64 size] W (fun e W' => e = .returned (.tuple #[.pointer none, .iface 188 (.pointer (some (a 2)))]) ∧ Below W.heap.size W W') := by
  have c2 := h.cell 2 (by omega)
  clear h
  by_cases h1 : size < 1
  · clear hs
    go_enter Tryd.func39, Tryd.ntmps39
    go_wp2_with (fail)
    go_quiet (fail)
    go_wp2
    exact bodyPost_ret (v := .tuple #[.pointer none, .iface 188 (.pointer (some (a 2)))]) (by simp [results, Tryd.results39, go_sem]) rfl ⟨rfl, below_drewN' _ _⟩
  · have h2 : 64 < size := by omega
    clear hs
    go_enter Tryd.func39, Tryd.ntmps39
    go_wp2_with (fail)
    go_quiet (fail)
    go_wp2
    exact bodyPost_ret (v := .tuple #[.pointer none, .iface 188 (.pointer (some (a 2)))]) (by simp [results, Tryd.results39, go_sem]) rfl ⟨rfl, below_drewN' _ _⟩
end Go.Proofs.YtdlemkmkheokkaaDoor
