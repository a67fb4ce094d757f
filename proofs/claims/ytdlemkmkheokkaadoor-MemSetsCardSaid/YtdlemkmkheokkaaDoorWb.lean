/- Contracts of the arena's New, Take and Give. -/
import Derived.Test.YtdlemkmkheokkaaDoorWa
namespace Go.Proofs.YtdlemkmkheokkaaDoor
open Go.RowKit

theorem info132 : (Tryd.prog.info? 132).map (fun i => (i.zero, i.size, i.bytes)) = some (some (.agg #[.bool false, .int .i64 0, .bool false]), 3, 24) := by kernel_rfl

theorem make_places (n : Nat) (hn : n ≤ 1000) (w : World) : (Instr.makeSlice 133 (.int .i64 n) (.int .i64 n)).run Tryd.prog w =
    .ok (.slice (some ⟨w.heap.size, 0, none⟩) n n) (w.alloc (.cells (madeCells #[.bool false, .int .i64 0, .bool false] (n * 3)) 132)) := by
  obtain ⟨i0, hi, hz0, hz1, hz2⟩ := info_parts info132
  have := run_make (P := Tryd.prog) w 133 132 i0 _ Tryd.underlying133 hi hz0 .i64 .i64 n n (by omega) (by omega) (by rw [hz2]; omega) (by omega)
  rw [hz1] at this
  simp only [Int.toNat_natCast, Value.cells] at this
  exact this

theorem places_zero (n : Nat) : ∀ i, i < 3 * n → (madeCells #[.bool false, .int .i64 0, .bool false] (n * 3))[i]? = some (AC.zero.cell i) := by
  intro i hi
  have h3 : i % 3 < 3 := Nat.mod_lt _ (by omega)
  simp only [madeCells, AC.cell, AC.zero]
  rcases (by omega : i % 3 = 0 ∨ i % 3 = 1 ∨ i % 3 = 2) with h | h | h <;> simp [h, show i < n * 3 by omega]

set_option maxHeartbeats 400000 in
theorem arena_new (n : Nat) (w : World) (h1 : 1 ≤ n) (hn : n ≤ 256) :
    Calls Tryd.prog 80 #[.int .i64 n] w (NewAr w n) := by
  have hmk := make_places n (by omega)
  have hz := places_zero n
  have Hz := Lib.hid hz
  clear hz
  go_enter Tryd.func80, Tryd.ntmps80
  go_wp2
  go_ret2
  refine ⟨w.heap.size + 1, w.heap.size, rfl, ⟨?_, ?_⟩, by omega, by omega, by omega, ?_⟩
  · have := Row.new (w.alloc (.cells (madeCells #[.bool false, .int .i64 0, .bool false] (n * 3)) 132)) #[.slice (some ⟨w.heap.size, 0, none⟩) n n] 135 1 (fun _ => .slice (some ⟨w.heap.size, 0, none⟩) n n) rfl
      (fun i hi => by obtain rfl : i = 0 := by omega
                      rfl)
    simpa using this
  · exact (Row.new w _ 132 (3 * n) _ (by simp [size_madeCells]; omega) Hz.out).alloc _
  · exact ((Below.refl _ _).alloc (Nat.le_refl _) _).alloc (by simp) _

set_option maxHeartbeats 800000 in
theorem arena_take (a l n : Nat) (c : AC) (i : Nat) (w : World) (h : Ar w a l n c) (hn : n ≤ 1000) (hal : a ≠ l) (hi : i < n)
    (hold : ∀ j, j < i → c.th j = true) (hth : c.th i = false) (hgo : c.go i = false) :
    Calls Tryd.prog 52 #[.pointer (some ⟨a, 0, none⟩)] w (Taken w a l n c i) := by
  have h1 := h.head
  have c0 := h.th i hi
  have c1 := h.ve i hi
  have c2 := h.gone i hi
  have f0 := h.row.frozen (i * 3)
  rw [hth] at c0
  rw [hgo] at c2
  have hlt := h.row.lt
  have H := Lib.hid h
  have Hold := Lib.hid hold
  clear h hold hth hgo
  go_enter Tryd.func52, Tryd.ntmps52
  go_wp2
  go_loop [12] (fun t => ∃ k : Nat, k ≤ i ∧ t = .int .i64 k) (fun t => (n - intOf t).toNat)
  case atStart => exact ⟨0, by omega, rfl⟩
  case round =>
    obtain ⟨k, hk, rfl⟩ := hrel
    by_cases hki : k = i
    · subst hki
      go_wp2
      go_quiet (fail)
      go_wp2
      go_ret3
      refine ⟨rfl, ?_, ?_⟩
      · exact (H.out.take hal k).drewN _
      · exact ((Only.refl (fun k => k = l) w).setCell ⟨l, k * 3, none⟩ _ (.inl rfl)).drewN _
    · have hk' : k < i := by omega
      have d0 := H.out.th k (by omega)
      rw [Hold.out k hk'] at d0
      go_wp2
      go_round
      case rel => exact ⟨k + 1, by omega, by go_num⟩
      case measure => simp [intOf]; omega

set_option maxHeartbeats 800000 in
theorem arena_give (a l n : Nat) (c : AC) (i : Nat) (w : World) (h : Ar w a l n c) (hn : n ≤ 1000) (hal : a ≠ l) (hi : i < n)
    (hth : c.th i = true) (hv0 : 0 ≤ c.ve i) (hv : c.ve i < 1000000) :
    Calls Tryd.prog 44 #[.pointer (some ⟨a, 0, none⟩), .int .i64 i] w (Given w a l n c i) := by
  have h1 := h.head
  have c0 := h.th i hi
  have c1 := h.ve i hi
  have f0 := h.row.frozen (i * 3)
  have f1 := h.row.frozen (i * 3 + 1)
  have ct := there_any a l n c i w h hn
  have e : thereB n c.th i = true := by simp [thereB, hi, hth]
  rw [e] at ct
  have CT := Lib.hid ct
  have hlt := h.row.lt
  have H := Lib.hid h
  have ev : (c.ve i == 1048575) = false := by simp; omega
  clear h ct e hth
  go_enter Tryd.func44, Tryd.ntmps44
  go_wp2_with (go_at_call 53; refine (CT.out).mono ?_; rintro e w' ⟨rfl, rfl⟩)
  go_ret
  refine ⟨rfl, ?_, ?_⟩
  · exact H.out.give hal i
  · exact ((Only.refl (fun k => k = l) w).setCell ⟨l, i * 3, none⟩ _ (.inl rfl)).setCell ⟨l, i * 3 + 1, none⟩ _ (.inl rfl)

end Go.Proofs.YtdlemkmkheokkaaDoor
