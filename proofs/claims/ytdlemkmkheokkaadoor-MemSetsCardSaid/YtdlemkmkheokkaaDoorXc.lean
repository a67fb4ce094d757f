/- Contracts of the reference's take, There, key, Key and MakePage. -/
import Derived.Test.YtdlemkmkheokkaaDoorXb
import Derived.Test.YtdlemkmkheokkaaDoorWi
import Derived.Test.YtdlemkmkheokkaaDoorWf
namespace Go.Proofs.YtdlemkmkheokkaaDoor
open Go.RowKit

def takeF (n m : Nat) : Int := if m < n then m else -1

set_option maxHeartbeats 800000 in
theorem take_any (g n cp m : Nat) (w : World) (h : Row w g (n * 4) (slotC (pre m))) (hm : m ≤ n) (hn : n ≤ 256) :
    Calls Tryd.prog 100 #[.slice (some ⟨g, 0, none⟩) n cp] w fun e w' => e = .returned (.int .i64 (takeF n m)) ∧ w = w' := by
  have H := Lib.hid h
  clear h
  by_cases hlt : m < n
  · have e : takeF n m = m := by simp [takeF, hlt]
    rw [e]; clear e
    have a0 := H.out.cell (m * 4) (by omega)
    rw [slotC_live] at a0
    have a1 := H.out.cell (m * 4 + 1) (by omega)
    rw [slotC_gone] at a1
    have e2 : pre m m = false := by simp [pre]
    rw [e2] at a0
    clear e2
    go_enter Tryd.func100, Tryd.ntmps100
    go_wp2
    go_loop [3] (fun t => ∃ k : Nat, k ≤ m ∧ t = .int .i64 k) (fun t => (n - intOf t).toNat)
    case atStart => exact ⟨0, by omega, rfl⟩
    case round =>
      obtain ⟨k, hk, rfl⟩ := hrel
      by_cases hkm : k = m
      · subst hkm
        go_wp2
        go_ret
        exact ⟨rfl, rfl⟩
      · have hk' : k < m := by omega
        have d0 := H.out.cell (k * 4) (by omega)
        rw [slotC_live] at d0
        have e2 : pre m k = true := by simp [pre, hk']
        rw [e2] at d0
        clear e2
        go_wp2
        go_round
        case rel => exact ⟨k + 1, by omega, by go_num⟩
        case measure => simp [intOf]; omega
  · have e : takeF n m = -1 := by simp [takeF, hlt]
    rw [e]; clear e
    go_enter Tryd.func100, Tryd.ntmps100
    go_wp2
    go_loop [3] (fun t => ∃ k : Nat, k ≤ n ∧ t = .int .i64 k) (fun t => (n - intOf t).toNat)
    case atStart => exact ⟨0, by omega, rfl⟩
    case round =>
      obtain ⟨k, hk, rfl⟩ := hrel
      by_cases hkn : k < n
      · have d0 := H.out.cell (k * 4) (by omega)
        rw [slotC_live] at d0
        have e2 : pre m k = true := by simp [pre]; omega
        rw [e2] at d0
        clear e2
        go_wp2
        go_round
        case rel => exact ⟨k + 1, by omega, by go_num⟩
        case measure => simp [intOf]; omega
      · go_wp2
        go_ret
        exact ⟨rfl, rfl⟩

set_option maxHeartbeats 400000 in
theorem rthere_yes (g n cp m i : Nat) (w : World) (h : Row w g (n * 4) (slotC (pre m))) (hm : m ≤ n) (_hn : n ≤ 256) (hi : i < m) :
    Calls Tryd.prog 107 #[.slice (some ⟨g, 0, none⟩) n cp, .int .i64 i] w fun e w' => e = .returned (.bool true) ∧ w = w' := by
  have d0 := h.cell (i * 4) (by omega)
  rw [slotC_live] at d0
  have e2 : pre m i = true := by simp [pre, hi]
  rw [e2] at d0
  clear e2 h
  have hin : i < n := by omega
  go_enter Tryd.func107, Tryd.ntmps107
  go_wp2
  go_ret
  exact ⟨rfl, rfl⟩

set_option maxHeartbeats 400000 in
theorem rkey_yes (g n cp m i : Nat) (kind : Int) (w : World) (h : Row w g (n * 4) (slotC (pre m))) (hm : m ≤ n) (hn : n ≤ 256) (hi : i < m) :
    Calls Tryd.prog 101 #[.int .i64 kind, .slice (some ⟨g, 0, none⟩) n cp, .int .i64 i] w (KeyBelow w ⟨kind, i, 0, 0, 0⟩) := by
  have TH := Lib.hid (fun o => rthere_yes g n cp m i (w.alloc o) (h.alloc o) hm hn hi)
  have d2 := h.cell (i * 4 + 2) (by omega)
  rw [slotC_ver] at d2
  have hl := h.lt
  have hin : i < n := by omega
  clear h
  go_enter Tryd.func101, Tryd.ntmps101
  go_wp2_with (go_at_call 107; refine (TH.out _).mono ?_; rintro e w' ⟨rfl, rfl⟩)
  exact bodyPost_ret (v := .agg #[.int .i64 kind, .int .i64 i, .int .i64 0, .int .i64 0, .int .u32 0]) (by simp [results, Tryd.results101, go_sem]) rfl ⟨rfl, (Below.refl _ _).alloc (Nat.le_refl _) _⟩

theorem key_below {w W : World} (h : Below w.heap.size w W) (a b c d e : Value) :
    Below w.heap.size w (((((W.setCell ⟨w.heap.size, 0, none⟩ a).setCell ⟨w.heap.size, 1, none⟩ b).setCell ⟨w.heap.size, 2, none⟩ c).setCell ⟨w.heap.size, 3, none⟩ d).setCell ⟨w.heap.size, 4, none⟩ e) :=
  ((((h.setCell (p := ⟨w.heap.size, 0, none⟩) (by simp) _).setCell (p := ⟨w.heap.size, 1, none⟩) (by simp) _).setCell (p := ⟨w.heap.size, 2, none⟩) (by simp) _).setCell (p := ⟨w.heap.size, 3, none⟩) (by simp) _).setCell (p := ⟨w.heap.size, 4, none⟩) (by simp) _

set_option maxHeartbeats 800000 in
theorem skey_page (Y : YA) (C : YC) (i : Nat) (w : World) (h : Sy w Y C) (hi : i < C.pm) :
    Calls Tryd.prog 89 #[.pointer (some ⟨Y.b, 0, none⟩), .int .i64 3, .int .i64 i] w (KeyBelow w ⟨3, i, 0, 0, 0⟩) := by
  obtain ⟨c, hc⟩ := h.c1
  have KY := Lib.hid (fun o => rkey_yes Y.ps C.p c C.pm i 3 (w.alloc o) (h.pr.alloc o) h.pmp h.p256 hi)
  have lb := h.lt Y.b (.inl rfl)
  clear h
  go_enter Tryd.func89, Tryd.ntmps89
  go_wp2_with (fail)
  go_at_call 101
  refine (KY.out _).mono ?_
  rintro e w1 ⟨rfl, hb1⟩
  have bx := (K.zero.box w 36).below hb1
  obtain ⟨c0, c1, c2, c3, c4⟩ := (show w1.cell? ⟨w.heap.size, 0, none⟩ = _ ∧ w1.cell? ⟨w.heap.size, 1, none⟩ = _ ∧ w1.cell? ⟨w.heap.size, 2, none⟩ = _ ∧ w1.cell? ⟨w.heap.size, 3, none⟩ = _ ∧ w1.cell? ⟨w.heap.size, 4, none⟩ = _ from ⟨bx.cell 0 (by omega), bx.cell 1 (by omega), bx.cell 2 (by omega), bx.cell 3 (by omega), bx.cell 4 (by omega)⟩)
  have f0 := bx.frozen 0
  have f1 := bx.frozen 1
  have f2 := bx.frozen 2
  have f3 := bx.frozen 3
  have f4 := bx.frozen 4
  have HB := Lib.hid hb1
  clear bx hb1
  go_wp2
  exact bodyPost_ret (v := .agg #[.int .i64 3, .int .i64 i, .int .i64 0, .int .i64 0, .int .u32 0]) (by simp [results, Tryd.results89, go_sem, c0, c1, c2, c3, c4]) rfl ⟨rfl, key_below (((Below.refl _ w).alloc (Nat.le_refl _) _).trans (HB.out.mono (by simp))) _ _ _ _ _⟩

set_option maxHeartbeats 800000 in
theorem skey_node (Y : YA) (C : YC) (i : Nat) (w : World) (h : Sy w Y C) (hi : i < C.nm) :
    Calls Tryd.prog 89 #[.pointer (some ⟨Y.b, 0, none⟩), .int .i64 2, .int .i64 i] w (KeyBelow w ⟨2, i, 0, 0, 0⟩) := by
  obtain ⟨c, hc⟩ := h.c0
  have KY := Lib.hid (fun o => rkey_yes Y.ns C.n c C.nm i 2 (w.alloc o) (h.nr.alloc o) h.nmn h.n256 hi)
  have lb := h.lt Y.b (.inl rfl)
  clear h
  go_enter Tryd.func89, Tryd.ntmps89
  go_wp2_with (fail)
  go_at_call 101
  refine (KY.out _).mono ?_
  rintro e w1 ⟨rfl, hb1⟩
  have bx := (K.zero.box w 36).below hb1
  obtain ⟨c0, c1, c2, c3, c4⟩ := (show w1.cell? ⟨w.heap.size, 0, none⟩ = _ ∧ w1.cell? ⟨w.heap.size, 1, none⟩ = _ ∧ w1.cell? ⟨w.heap.size, 2, none⟩ = _ ∧ w1.cell? ⟨w.heap.size, 3, none⟩ = _ ∧ w1.cell? ⟨w.heap.size, 4, none⟩ = _ from ⟨bx.cell 0 (by omega), bx.cell 1 (by omega), bx.cell 2 (by omega), bx.cell 3 (by omega), bx.cell 4 (by omega)⟩)
  have f0 := bx.frozen 0
  have f1 := bx.frozen 1
  have f2 := bx.frozen 2
  have f3 := bx.frozen 3
  have f4 := bx.frozen 4
  have HB := Lib.hid hb1
  clear bx hb1
  go_wp2
  exact bodyPost_ret (v := .agg #[.int .i64 2, .int .i64 i, .int .i64 0, .int .i64 0, .int .u32 0]) (by simp [results, Tryd.results89, go_sem, c0, c1, c2, c3, c4]) rfl ⟨rfl, key_below (((Below.refl _ w).alloc (Nat.le_refl _) _).trans (HB.out.mono (by simp))) _ _ _ _ _⟩

end Go.Proofs.YtdlemkmkheokkaaDoor
