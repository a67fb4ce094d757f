/- Contracts of the reference's New and Small. -/
import Derived.Test.YtdlemkmkheokkaaDoorMd
namespace Go.Proofs.YtdlemkmkheokkaaDoor
open Go.RowKit

theorem make0 {P : Program} (t e : TypeId) (ht : P.underlying t = some (.slice e)) (hz : ((P.info? e).bind (·.zero)).isSome = true) (w : World) :
    (Instr.makeSlice t (.int .i64 0) (.int .i64 0)).run P w = .ok (.slice (some ⟨w.heap.size, 0, none⟩) 0 0) (w.alloc (.cells #[] e)) := by
  cases hi : P.info? e with
  | none => simp [hi] at hz
  | some i =>
    cases hzz : i.zero with
    | none => simp [hi, hzz] at hz
    | some z =>
      have := run_make (P := P) w t e i z ht hi hzz .i64 .i64 0 0 (by omega) (by omega) (by omega) (by omega)
      have e : madeCells z.cells ((0 : Int).toNat * i.size) = #[] := by simp [madeCells, Array.range_zero']
      rw [e] at this
      exact this
theorem mk139 (w : World) : (Instr.makeSlice 139 (.int .i64 0) (.int .i64 0)).run Tryd.prog w = .ok (.slice (some ⟨w.heap.size, 0, none⟩) 0 0) (w.alloc (.cells #[] 178)) := make0 (P := Tryd.prog) 139 178 Tryd.underlying139 (by kernel_rfl) w
theorem mk140 (w : World) : (Instr.makeSlice 140 (.int .i64 0) (.int .i64 0)).run Tryd.prog w = .ok (.slice (some ⟨w.heap.size, 0, none⟩) 0 0) (w.alloc (.cells #[] 205)) := make0 (P := Tryd.prog) 140 205 Tryd.underlying140 (by kernel_rfl) w
theorem mk141 (w : World) : (Instr.makeSlice 141 (.int .i64 0) (.int .i64 0)).run Tryd.prog w = .ok (.slice (some ⟨w.heap.size, 0, none⟩) 0 0) (w.alloc (.cells #[] 207)) := make0 (P := Tryd.prog) 141 207 Tryd.underlying141 (by kernel_rfl) w
theorem mk142 (w : World) : (Instr.makeSlice 142 (.int .i64 0) (.int .i64 0)).run Tryd.prog w = .ok (.slice (some ⟨w.heap.size, 0, none⟩) 0 0) (w.alloc (.cells #[] 187)) := make0 (P := Tryd.prog) 142 187 Tryd.underlying142 (by kernel_rfl) w

theorem sy_make (w : World) (g1 g2 n p c1 c2 : Nat) (h1 : Row w g1 (n * 4) (slotC fun _ => false)) (h2 : Row w g2 (p * 4) (slotC fun _ => false)) (ne : g1 ≠ g2) (hn : n ≤ 256) (hp : p ≤ 256) (cs : Array Value)
    (e : cs.size = 16) (e0 : cs[0]? = some (.slice (some ⟨g1, 0, none⟩) n c1)) (e1 : cs[1]? = some (.slice (some ⟨g2, 0, none⟩) p c2)) (e6 : cs[6]? = some (.slice (some ⟨w.heap.size + 1, 0, none⟩) n n))
    (e7 : cs[7]? = some (.slice (some ⟨w.heap.size + 1 + 1, 0, none⟩) p p)) (o1 o2 o3 o4 : Obj) :
    Sy (((((((w.alloc (.cells cs 144)).alloc (.cells (nodesZero n) 109)).alloc (.cells (pagesZero p) 101)).alloc o1).alloc o2).alloc o3).alloc o4) ⟨w.heap.size, g1, g2, w.heap.size + 1, w.heap.size + 2⟩ (YC.new n p) := by
  have l1 := h1.lt
  have l2 := h2.lt
  refine ⟨⟨fun j => cs.getD j undef, ?_, ⟨c1, ?_⟩, ⟨c2, ?_⟩, ?_, ?_⟩, ?_, ?_, ?_, ?_, ?_, hn, hp, Nat.zero_le _, Nat.zero_le _⟩
  · exact ((((((Row.new w cs 144 16 (fun j => cs.getD j undef) e (fun i hi => by simp [Array.getD, e, hi])).alloc _).alloc _).alloc _).alloc _).alloc _).alloc _
  · simp [Array.getD_eq_getD_getElem?, e0, YC.new]
  · simp [Array.getD_eq_getD_getElem?, e1, YC.new]
  · simp [Array.getD_eq_getD_getElem?, e6, YC.new]
  · simp [Array.getD_eq_getD_getElem?, e7, YC.new]
  · have h : Row w g1 (n * 4) (slotC (pre 0)) := h1.congr fun i _ => by simp [slotC, pre]
    exact ((((((h.alloc _).alloc _).alloc _).alloc _).alloc _).alloc _).alloc _
  · have h : Row w g2 (p * 4) (slotC (pre 0)) := h2.congr fun i _ => by simp [slotC, pre]
    exact ((((((h.alloc _).alloc _).alloc _).alloc _).alloc _).alloc _).alloc _
  · have := (((((Row.new (w.alloc (.cells cs 144)) (nodesZero n) 109 (n * 80) _ (nodesZero_size n) (nodesZero_get n)).alloc (.cells (pagesZero p) 101)).alloc o1).alloc o2).alloc o3).alloc o4
    rw [World.size_alloc] at this
    exact this
  · have := ((((Row.new ((w.alloc (.cells cs 144)).alloc (.cells (nodesZero n) 109)) (pagesZero p) 101 (p * 32) _ (pagesZero_size p) (pagesZero_get p)).alloc o1).alloc o2).alloc o3).alloc o4
    rw [World.size_alloc, World.size_alloc] at this
    exact this
  · constructor <;> dsimp only <;> omega

set_option maxRecDepth 100000 in
set_option maxHeartbeats 1000000 in
theorem sys_new (n p : Nat) (w : World) (h1 : 1 ≤ n) (hn : n ≤ 256) (h2 : 1 ≤ p) (hp : p ≤ 256) :
    Calls Tryd.prog 87 #[.int .i64 n, .int .i64 p, .int .i64 0, .int .i64 0, .int .i64 0, .int .i64 0] w (NewSy w n p) := by
  have SN := Lib.hid (fun W => slots_any n W hn)
  have SP := Lib.hid (fun W => slots_any p W hp)
  have S0 := Lib.hid (show ∀ W, Calls Tryd.prog 99 #[.int .i64 0] W (SlotsP W 0) from fun W => slots_any 0 W (by omega))
  have k1 := make_nodes n (by omega)
  have k2 := make_pages p (by omega)
  have k3 := mk139
  have k4 := mk140
  have k5 := mk141
  have k6 := mk142
  go_enter Tryd.func87, Tryd.ntmps87
  go_wp2_with (fail)
  go_at_call 99
  refine (SN.out _).mono ?_
  rintro e w1 ⟨v1, rfl, ho1, hb1⟩
  obtain ⟨g1, a1, rfl, hg1, hr1⟩ := slots_row ho1 h1
  have L1 := hr1.lt
  have HR1 := Lib.hid hr1
  have HB1 := Lib.hid hb1
  clear ho1 hr1 hb1
  go_wp2_with (fail)
  go_at_call 99
  refine (SP.out _).mono ?_
  rintro e w2 ⟨v2, rfl, ho2, hb2⟩
  obtain ⟨g2, a2, rfl, hg2, hr2⟩ := slots_row ho2 h2
  have HR1 := Lib.hid (HR1.out.below hb2)
  have HR2 := Lib.hid hr2
  have s12 := hb2.size
  have L2 := hr2.lt
  have HB2 := Lib.hid (HB1.out.trans (hb2.mono HB1.out.size))
  clear ho2 hr2 hb2
  go_wp2_with (fail)
  go_at_call 99
  refine (S0.out _).mono ?_
  rintro e w3 ⟨v3, rfl, ho3, hb3⟩
  obtain ⟨A3, m3, a3, rfl⟩ := slots_slice ho3
  have HR1 := Lib.hid (HR1.out.below hb3)
  have HR2 := Lib.hid (HR2.out.below hb3)
  have HB3 := Lib.hid (HB2.out.trans (hb3.mono HB2.out.size))
  clear ho3 hb3
  go_wp2_with (fail)
  go_at_call 99
  refine (S0.out _).mono ?_
  rintro e w4 ⟨v4, rfl, ho4, hb4⟩
  obtain ⟨A4, m4, a4, rfl⟩ := slots_slice ho4
  have HR1 := Lib.hid (HR1.out.below hb4)
  have HR2 := Lib.hid (HR2.out.below hb4)
  have HB4 := Lib.hid (HB3.out.trans (hb4.mono HB3.out.size))
  clear ho4 hb4
  go_wp2_with (fail)
  go_at_call 99
  refine (S0.out _).mono ?_
  rintro e w5 ⟨v5, rfl, ho5, hb5⟩
  obtain ⟨A5, m5, a5, rfl⟩ := slots_slice ho5
  have HR1 := Lib.hid (HR1.out.below hb5)
  have HR2 := Lib.hid (HR2.out.below hb5)
  have HB5 := Lib.hid (HB4.out.trans (hb5.mono HB4.out.size))
  clear ho5 hb5
  go_wp2_with (fail)
  go_at_call 99
  refine (S0.out _).mono ?_
  rintro e w6 ⟨v6, rfl, ho6, hb6⟩
  obtain ⟨A6, m6, a6, rfl⟩ := slots_slice ho6
  have HR1 := Lib.hid (HR1.out.below hb6)
  have HR2 := Lib.hid (HR2.out.below hb6)
  have HB6 := Lib.hid (HB5.out.trans (hb6.mono HB5.out.size))
  clear ho6 hb6
  go_wp2
  go_ret
  have s6 := HB6.out.size
  have l1 := HR1.out.lt
  have l2 := HR2.out.lt
  refine ⟨⟨w6.heap.size, g1, g2, w6.heap.size + 1, w6.heap.size + 2⟩, rfl, ?_, ?_, ?_⟩
  · exact sy_make w6 g1 g2 n p a1 a2 HR1.out HR2.out (by omega) hn hp _ rfl rfl rfl rfl rfl _ _ _ _
  · rintro x (rfl | rfl | rfl | rfl | rfl) <;> (try dsimp only) <;> omega
  · exact HB6.out.trans (((((((((Below.refl _ _).alloc (Nat.le_refl _) _).alloc (by simp) _).alloc (by simp; omega) _).alloc (by simp; omega) _).alloc (by simp; omega) _).alloc (by simp; omega) _).alloc (by simp; omega) _).mono s6)

set_option maxHeartbeats 400000 in
theorem small_any (n p : Nat) (w : World) (h1 : 1 ≤ n) (hn : n ≤ 256) (h2 : 1 ≤ p) (hp : p ≤ 256) : Calls Tryd.prog 73 #[.int .i64 n, .int .i64 p] w (NewSy w n p) := by
  have SN := Lib.hid (fun W => sys_new n p W h1 hn h2 hp)
  go_enter Tryd.func73, Tryd.ntmps73
  go_wp2_with (fail)
  go_at_call 87
  refine (SN.out _).mono ?_
  rintro e w1 ⟨Y, rfl, hy, hx, hb⟩
  have HY := Lib.hid hy
  have HX := Lib.hid hx
  have HB := Lib.hid hb
  clear hy hx hb
  go_wp2
  go_ret
  exact ⟨Y, rfl, HY.out, HX.out, HB.out⟩

end Go.Proofs.YtdlemkmkheokkaaDoor
