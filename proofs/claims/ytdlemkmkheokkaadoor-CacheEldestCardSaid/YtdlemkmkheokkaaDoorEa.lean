/- Errors as plain data: what turnkeysee.Is says of cache.New's fault. -/
import Derived.Test.YtdlemkmkheokkaaDoorCb
import Derived.LaidEql
import Derived.Stop.IfaceNil
namespace Go.Proofs.YtdlemkmkheokkaaDoor
open Go.RowKit

/-- api's twelve errors, as they lie -/
structure Errs (W : World) (a : Nat → Addr) : Prop where
  cell : ∀ g, g < 12 → W.cell? ⟨g, 0, none⟩ = some (.iface 188 (.pointer (some (a g))))
  n1 : a 6 ≠ a 2
  n2 : a 4 ≠ a 2
  b : ∀ g, g < 12 → ∃ c t, W.heap[(a g).block]? = some (.cells c t (0, 0))
theorem Errs.lt {W : World} {a : Nat → Addr} (h : Errs W a) (g : Nat) (hg : g < 12) : g < W.heap.size := World.block_lt_of_cell? W ⟨g, 0, none⟩ (h.cell g hg)
theorem Errs.below {W W' : World} {a : Nat → Addr} (h : Errs W a) (b : Below W.heap.size W W') : Errs W' a := by
  refine ⟨fun g hg => ?_, h.n1, h.n2, fun g hg => ?_⟩
  · rw [← h.cell g hg]
    exact World.cell?_of_block (w := W) (w' := W') (a := ⟨g, 0, none⟩) (b.block g (h.lt g hg))
  · obtain ⟨c, t, e⟩ := h.b g hg
    refine ⟨c, t, ?_⟩
    rw [← e]
    refine b.block _ ?_
    rcases Nat.lt_or_ge (a g).block W.heap.size with h' | h'
    · exact h'
    · rw [Array.getElem?_eq_none h'] at e
      cases e

theorem iface25 : Tryd.prog.isIface 25 = true := by kernel_rfl
theorem comp188 : (Tryd.prog.info? 188).map (·.comparable) = some true := by kernel_rfl
theorem size209 : (Tryd.prog.info? 209).map (·.size) = some 1 := by kernel_rfl
set_option maxRecDepth 100000 in
theorem alike_same (x : Addr) (W : World) : Calls Tryd.prog 106 #[.iface 188 (.pointer (some x)), .iface 188 (.pointer (some x))] W (fun e W' => e = .returned (.bool true) ∧ W = W') := by
  obtain ⟨i, hi, hcmp⟩ := Option.map_eq_some_iff.1 comp188
  obtain ⟨j, hj, _⟩ := Option.map_eq_some_iff.1 size209
  have i25 := iface25
  go_enter Tryd.func106, Tryd.ntmps106
  go_wp2
  rw [run_eql_iface_ptr_same W x Tryd.underlying25 Tryd.underlying188 hi hcmp hj]
  go_wp2
  go_ret
  exact ⟨rfl, rfl⟩
set_option maxRecDepth 100000 in
theorem alike_other (x y : Addr) (W : World) (hne : x ≠ y) (cx cy : Array Value) (tx ty : TypeId) (hx : W.heap[x.block]? = some (.cells cx tx (0, 0))) (hy : W.heap[y.block]? = some (.cells cy ty (0, 0))) :
    Calls Tryd.prog 106 #[.iface 188 (.pointer (some x)), .iface 188 (.pointer (some y))] W (fun e W' => e = .returned (.bool false) ∧ W = W') := by
  obtain ⟨i, hi, hcmp⟩ := Option.map_eq_some_iff.1 comp188
  obtain ⟨j, hj, hjs⟩ := Option.map_eq_some_iff.1 size209
  have i25 := iface25
  go_enter Tryd.func106, Tryd.ntmps106
  go_wp2
  rw [run_eql_iface_ptr_other W Tryd.underlying25 Tryd.underlying188 hi hcmp hj (by rw [hjs]; decide) hne hx hy]
  go_wp2
  go_ret
  exact ⟨rfl, rfl⟩
/-- Bare -/
theorem bare_any (n : Int) (W : World) : Calls Tryd.prog 72 #[.int .i64 n] W (fun e W' => e = .returned (.agg #[.int .i64 n, .bool false, .int .i64 0]) ∧ Below W.heap.size W W') := by
  go_enter Tryd.func72, Tryd.ntmps72
  go_wp2
  exact bodyPost_ret (v := .agg #[.int .i64 n, .bool false, .int .i64 0]) (by simp [results, Tryd.results72, go_sem]) rfl ⟨rfl, (Below.refl _ _).alloc (Nat.le_refl _) _⟩
theorem same_fault (n : Int) (W : World) : Calls Tryd.prog 85 #[.agg #[.int .i64 n, .bool false, .int .i64 0], .agg #[.int .i64 n, .bool false, .int .i64 0]] W (fun e W' => e = .returned (.bool true) ∧ Below W.heap.size W W') := by
  go_enter Tryd.func85, Tryd.ntmps85
  go_wp2
  go_ret
  exact ⟨rfl, ((Below.refl _ _).alloc (Nat.le_refl _) _).alloc (by simp) _⟩
/-- the list of the errors -/
def errC (a : Nat → Addr) (j : Nat) : Value := .iface 188 (.pointer (some (a ([6, 4, 2, 0, 1, 3, 7, 8, 9, 5, 10, 11].getD j 0))))
theorem sentinels_any (a : Nat → Addr) (W : World) (h : Errs W a) : Calls Tryd.prog 105 #[] W (fun e W' => e = .returned (.slice (some ⟨W.heap.size, 0, none⟩) 12 12) ∧ Row W' W.heap.size 12 (errC a) ∧ Below W.heap.size W W') := by
  have c0 := h.cell 0 (by omega)
  have c1 := h.cell 1 (by omega)
  have c2 := h.cell 2 (by omega)
  have c3 := h.cell 3 (by omega)
  have c4 := h.cell 4 (by omega)
  have c5 := h.cell 5 (by omega)
  have c6 := h.cell 6 (by omega)
  have c7 := h.cell 7 (by omega)
  have c8 := h.cell 8 (by omega)
  have c9 := h.cell 9 (by omega)
  have c10 := h.cell 10 (by omega)
  have c11 := h.cell 11 (by omega)
  clear h
  go_enter Tryd.func105, Tryd.ntmps105
  go_wp2
  go_ret
  refine ⟨rfl, ?_, (Below.refl _ _).alloc (Nat.le_refl _) _⟩
  exact Row.new W _ _ 12 (errC a) rfl (fun i hi => by
    rcases (by omega : i = 0 ∨ i = 1 ∨ i = 2 ∨ i = 3 ∨ i = 4 ∨ i = 5 ∨ i = 6 ∨ i = 7 ∨ i = 8 ∨ i = 9 ∨ i = 10 ∨ i = 11) with rfl | rfl | rfl | rfl | rfl | rfl | rfl | rfl | rfl | rfl | rfl | rfl <;> rfl)
end Go.Proofs.YtdlemkmkheokkaaDoor
