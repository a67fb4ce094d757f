/- The contract of the memory's Swap, by node 0's key. -/
import Derived.Test.YtdlemkmkheokkaaDoorSa
namespace Go.Proofs.YtdlemkmkheokkaaDoor
open Go.RowKit

section
variable {w0 : World} {S : SA} {cb mb : Nat} {D : SC} {size hits n : Int} {cs : List CW} {X : Nat → Prop} {W : World}
set_option maxHeartbeats 2000000 in
theorem mem_swap_lk (i : Nat) (x : K) (h : Lk w0 S cb D size hits cs X W) (hx : X mb) (hr : Row W mb 3 (meCell S.s cb size)) (hn : ∀ c ∈ cs, c.ns.length ≤ 1000) (hd : Nd0 D) (hi : i < 16) (hk : okK x) :
    Calls Tryd.prog 34 #[.pointer (some ⟨mb, 0, none⟩), .agg #[.int .i64 2, .int .i64 0, .int .i64 0, .int .i64 0, .int .u32 1], .int .i64 i, x.v] W fun e W' => e = .returned (.tuple #[(D.nk 0 i).v, .nilIface]) ∧ Lk w0 S cb { D with nk := up2 D.nk 0 i x } size hits (cs.filter fun c => !thr [(0 : Int)] c.ns) X W' ∧ Keep X W W' := by
  have SW := Lib.hid (fun V (hV : Sto V S D) => store_swap i x hV hd hi hk)
  obtain ⟨q, hq⟩ : ∃ q, q = D.nk 0 i := ⟨_, rfl⟩
  unfold SwapP at SW
  rw [← hq] at SW
  rw [← hq]
  obtain ⟨qk, qi, qv, qr, qd⟩ := q
  obtain ⟨xk, xi, xv, xr, xd⟩ := x
  have hl0 : Lk w0 S cb D size hits cs (fun y => ((X y ∨ y = W.heap.size) ∨ y = W.heap.size + 1) ∨ y = W.heap.size + 1 + 1) (((W.alloc (.cells #[.int .i64 2, .int .i64 0, .int .i64 0, .int .i64 0, .int .u32 1] 36)).alloc (.cells #[.int .i64 xk, .int .i64 xi, .int .i64 xv, .int .i64 xr, .int .u32 xd] 36)).alloc (.cells #[.int .i64 0, .int .i64 0, .int .i64 0, .int .i64 0, .int .u32 0] 36)) := by
    have := ((h.new (.cells #[.int .i64 2, .int .i64 0, .int .i64 0, .int .i64 0, .int .u32 1] 36)).new (.cells #[.int .i64 xk, .int .i64 xi, .int .i64 xv, .int .i64 xr, .int .u32 xd] 36)).new (.cells #[.int .i64 0, .int .i64 0, .int .i64 0, .int .i64 0, .int .u32 0] 36)
    simpa [World.size_alloc] using this
  have hb0 : Below W.heap.size W (((W.alloc (.cells #[.int .i64 2, .int .i64 0, .int .i64 0, .int .i64 0, .int .u32 1] 36)).alloc (.cells #[.int .i64 xk, .int .i64 xi, .int .i64 xv, .int .i64 xr, .int .u32 xd] 36)).alloc (.cells #[.int .i64 0, .int .i64 0, .int .i64 0, .int .i64 0, .int .u32 0] 36)) := (((Below.refl _ _).alloc (Nat.le_refl _) _).alloc (by simp) _).alloc (by simp; omega) _
  have rk0 : Row (((W.alloc (.cells #[.int .i64 2, .int .i64 0, .int .i64 0, .int .i64 0, .int .u32 1] 36)).alloc (.cells #[.int .i64 xk, .int .i64 xi, .int .i64 xv, .int .i64 xr, .int .u32 xd] 36)).alloc (.cells #[.int .i64 0, .int .i64 0, .int .i64 0, .int .i64 0, .int .u32 0] 36)) W.heap.size 5 kn0.cell := ((kn0.box W 36).alloc _).alloc _
  have rx0 : Row (((W.alloc (.cells #[.int .i64 2, .int .i64 0, .int .i64 0, .int .i64 0, .int .u32 1] 36)).alloc (.cells #[.int .i64 xk, .int .i64 xi, .int .i64 xv, .int .i64 xr, .int .u32 xd] 36)).alloc (.cells #[.int .i64 0, .int .i64 0, .int .i64 0, .int .i64 0, .int .u32 0] 36)) (W.heap.size + 1) 5 (⟨xk, xi, xv, xr, xd⟩ : K).cell := by
    have := ((⟨xk, xi, xv, xr, xd⟩ : K).box (W.alloc (.cells #[.int .i64 2, .int .i64 0, .int .i64 0, .int .i64 0, .int .u32 1] 36)) 36).alloc (.cells #[.int .i64 0, .int .i64 0, .int .i64 0, .int .i64 0, .int .u32 0] 36)
    rwa [World.size_alloc] at this
  have rz0 : Row (((W.alloc (.cells #[.int .i64 2, .int .i64 0, .int .i64 0, .int .i64 0, .int .u32 1] 36)).alloc (.cells #[.int .i64 xk, .int .i64 xi, .int .i64 xv, .int .i64 xr, .int .u32 xd] 36)).alloc (.cells #[.int .i64 0, .int .i64 0, .int .i64 0, .int .i64 0, .int .u32 0] 36)) (W.heap.size + 1 + 1) 5 K.zero.cell := by
    have := K.zero.box ((W.alloc (.cells #[.int .i64 2, .int .i64 0, .int .i64 0, .int .i64 0, .int .u32 1] 36)).alloc (.cells #[.int .i64 xk, .int .i64 xi, .int .i64 xv, .int .i64 xr, .int .u32 xd] 36)) 36
    rwa [World.size_alloc, World.size_alloc] at this
  obtain ⟨Wa, hWa⟩ : ∃ Wa, Wa = (((W.alloc (.cells #[.int .i64 2, .int .i64 0, .int .i64 0, .int .i64 0, .int .u32 1] 36)).alloc (.cells #[.int .i64 xk, .int .i64 xi, .int .i64 xv, .int .i64 xr, .int .u32 xd] 36)).alloc (.cells #[.int .i64 0, .int .i64 0, .int .i64 0, .int .i64 0, .int .u32 0] 36)) := ⟨_, rfl⟩
  rw [← hWa] at hl0 hb0 rk0 rx0 rz0
  have rm0 : Row Wa mb 3 (meCell S.s cb size) := hr.below hb0
  have lm := (h.hX mb hx).1
  have m0 : ¬ W.heap.size = mb := by omega
  have m1 : ¬ W.heap.size + 1 = mb := by omega
  have m2 : ¬ W.heap.size + 1 + 1 = mb := by omega
  have m2' : ¬ mb = W.heap.size + 1 + 1 := by omega
  have h2 := (hl0.drew).new (.cells #[.int .i64 0] 3)
  have FG := lk_forget _ 1 [(0 : Int)] h2 (nums1 _ 0 3) (by simp) (.inr rfl) hn
  have lwa : W.heap.size < Wa.heap.size := rk0.lt
  have lma : mb < Wa.heap.size := rm0.lt
  have z2 : Wa.cell? ⟨mb, 2, none⟩ = some (.pointer (some ⟨cb, 0, none⟩)) := rm0.cell 2 (by omega)
  have k1 : Wa.cell? ⟨W.heap.size, 1, none⟩ = some (.int .i64 0) := rk0.cell 1 (by omega)
  have n1 : ¬ mb = Wa.heap.size := by omega
  have n2 : ¬ W.heap.size = Wa.heap.size := by omega
  have HWA := Lib.hid hWa
  have HFG := Lib.hid FG
  have HL := Lib.hid hl0
  have HB := Lib.hid hb0
  have RK := Lib.hid rk0
  have RX := Lib.hid rx0
  have RZ := Lib.hid rz0
  have RM := Lib.hid rm0
  have H := Lib.hid h
  have HX := Lib.hid hx
  have HR := Lib.hid hr
  clear FG h2 hl0 hb0 rk0 rx0 rz0 rm0 hWa h hx hr hn hk hd hi hq lm
  go_enter Tryd.func34, Tryd.ntmps34
  go_wp2_with (fail)
  rw [← HWA.out]
  generalize hzb : W.heap.size + 1 + 1 = zb at *
  generalize hxb : W.heap.size + 1 = xb at *
  generalize hkb : W.heap.size = kb at *
  have n3 : ¬ kb = zb := by omega
  have n4 : ¬ xb = zb := by omega
  have n5 : ¬ kb = xb := by omega
  have HE := Lib.hid (And.intro hkb (And.intro hxb hzb))
  clear hkb hxb hzb
  go_region_held3 (fun V => V.cell? ⟨mb, 2, none⟩ = some (.pointer (some ⟨cb, 0, none⟩)) ∧ V.cell? ⟨kb, 1, none⟩ = some (.int .i64 0))
    (first | exact ⟨z2, k1⟩ | go_keep)
    ((go_at_call 48; refine (HFG.out).mono ?_; rintro e w5 ⟨rfl, hl5, hk5⟩; have L5 := Lib.hid (hl5.less (Y := fun y => ((X y ∨ y = kb) ∨ y = xb) ∨ y = zb) fun y hy => .inl hy); have HK5 := Lib.hid hk5; have z2 : w5.cell? ⟨mb, 2, none⟩ = some (.pointer (some ⟨cb, 0, none⟩)) := (((RM.out.of_block rfl : Row Wa.drew mb 3 (meCell S.s cb size)).alloc (.cells #[.int .i64 0] 3)).of_block (w' := w5) (hk5.2 _ (.inl (.inl (.inl (.inl HX.out)))))).cell 2 (by omega); have k1 : w5.cell? ⟨kb, 1, none⟩ = some (.int .i64 0) := (((RK.out.of_block rfl : Row Wa.drew kb 5 kn0.cell).alloc (.cells #[.int .i64 0] 3)).of_block (w' := w5) (hk5.2 _ (.inl (.inl (.inl (.inr rfl)))))).cell 1 (by omega); clear hl5 hk5))
  have RK5 := Lib.hid (((RK.out.of_block rfl : Row Wa.drew kb 5 kn0.cell).alloc (.cells #[.int .i64 0] 3)).of_block (w' := w5) (HK5.out.2 _ (.inl (.inl (.inl (.inr rfl))))))
  have RX5 := Lib.hid (((RX.out.of_block rfl : Row Wa.drew (xb) 5 (⟨xk, xi, xv, xr, xd⟩ : K).cell).alloc (.cells #[.int .i64 0] 3)).of_block (w' := w5) (HK5.out.2 _ (.inl (.inl (.inr rfl)))))
  have RZ5 := Lib.hid (((RZ.out.of_block rfl : Row Wa.drew (zb) 5 K.zero.cell).alloc (.cells #[.int .i64 0] 3)).of_block (w' := w5) (HK5.out.2 _ (.inl (.inr rfl))))
  have RM5 := Lib.hid (((RM.out.of_block rfl : Row Wa.drew mb 3 (meCell S.s cb size)).alloc (.cells #[.int .i64 0] 3)).of_block (w' := w5) (HK5.out.2 _ (.inl (.inl (.inl (.inl HX.out))))))
  have K5 : Hid (Keep X W w5) := Lib.hid ((H.out.keep_below (HE.out.1.symm ▸ (HB.out.drew.alloc (HE.out.1 ▸ HB.out.size) (.cells #[.int .i64 0] 3)))).trans (HK5.out.less fun y hy => .inl (.inl (.inl (.inl hy)))))
  clear RK RX RZ RM HB HK5 HFG HL HWA n1 n2 z2 k1
  have z0 : w5.cell? ⟨mb, 0, none⟩ = some (.pointer (some ⟨S.s, 0, none⟩)) := RM5.out.cell 0 (by omega)
  have k0 : w5.cell? ⟨kb, 0, none⟩ = some (.int .i64 2) := RK5.out.cell 0 (by omega)
  have k1 : w5.cell? ⟨kb, 1, none⟩ = some (.int .i64 0) := RK5.out.cell 1 (by omega)
  have k2 : w5.cell? ⟨kb, 2, none⟩ = some (.int .i64 0) := RK5.out.cell 2 (by omega)
  have k3 : w5.cell? ⟨kb, 3, none⟩ = some (.int .i64 0) := RK5.out.cell 3 (by omega)
  have k4 : w5.cell? ⟨kb, 4, none⟩ = some (.int .u32 1) := RK5.out.cell 4 (by omega)
  obtain ⟨x0, x1, x2, x3, x4⟩ := K.facts RX5.out
  have SS := Lib.hid (show Calls Tryd.prog 67 #[.pointer (some ⟨S.s, 0, none⟩), .agg #[.int .i64 2, .int .i64 0, .int .i64 0, .int .i64 0, .int .u32 1], .int .i64 i, .agg #[.int .i64 xk, .int .i64 xi, .int .i64 xv, .int .i64 xr, .int .u32 xd]] w5.drew (fun e w' => e = .returned (.tuple #[.agg #[.int .i64 qk, .int .i64 qi, .int .i64 qv, .int .i64 qr, .int .u32 qd], .nilIface]) ∧ No w' S.n D.nc D.na (up2 D.nk 0 i ⟨xk, xi, xv, xr, xd⟩) ∧ Only (fun y => y = S.n.k) w5.drew w') from SW.out w5.drew L5.out.drew.sto)
  clear SW
  go_wp2_with (fail)
  go_region_with ((go_at_call 67; refine (SS.out).mono ?_; rintro e w6 ⟨rfl, hno, ho⟩; obtain ⟨l6, kp6⟩ := L5.out.drew.set hno ho; have L6 := Lib.hid l6; have K6 := Lib.hid kp6; have R6 := RZ5.out.of_block (w' := w6) (kp6.2 _ (.inr rfl)); have HR6 := Lib.hid R6; have y0 : w6.cell? ⟨zb, 0, none⟩ = some (.int .i64 0) := R6.cell 0 (by omega); have y1 : w6.cell? ⟨zb, 1, none⟩ = some (.int .i64 0) := R6.cell 1 (by omega); have y2 : w6.cell? ⟨zb, 2, none⟩ = some (.int .i64 0) := R6.cell 2 (by omega); have y3 : w6.cell? ⟨zb, 3, none⟩ = some (.int .i64 0) := R6.cell 3 (by omega); have y4 : w6.cell? ⟨zb, 4, none⟩ = some (.int .u32 0) := R6.cell 4 (by omega); have f0 := R6.frozen 0; have f1 := R6.frozen 1; have f2 := R6.frozen 2; have f3 := R6.frozen 3; have f4 := R6.frozen 4; have z0 : w6.cell? ⟨mb, 0, none⟩ = some (.pointer (some ⟨S.s, 0, none⟩)) := (RM5.out.of_block (w' := w6) (kp6.2 _ (.inl (.inl (.inl HX.out))))).cell 0 (by omega); have k0 : w6.cell? ⟨kb, 0, none⟩ = some (.int .i64 2) := (RK5.out.of_block (w' := w6) (kp6.2 _ (.inl (.inl (.inr rfl))))).cell 0 (by omega); have k1 : w6.cell? ⟨kb, 1, none⟩ = some (.int .i64 0) := (RK5.out.of_block (w' := w6) (kp6.2 _ (.inl (.inl (.inr rfl))))).cell 1 (by omega); have k2 : w6.cell? ⟨kb, 2, none⟩ = some (.int .i64 0) := (RK5.out.of_block (w' := w6) (kp6.2 _ (.inl (.inl (.inr rfl))))).cell 2 (by omega); have k3 : w6.cell? ⟨kb, 3, none⟩ = some (.int .i64 0) := (RK5.out.of_block (w' := w6) (kp6.2 _ (.inl (.inl (.inr rfl))))).cell 3 (by omega); have k4 : w6.cell? ⟨kb, 4, none⟩ = some (.int .u32 1) := (RK5.out.of_block (w' := w6) (kp6.2 _ (.inl (.inl (.inr rfl))))).cell 4 (by omega); obtain ⟨x0, x1, x2, x3, x4⟩ := K.facts (RX5.out.of_block (w' := w6) (kp6.2 _ (.inl (.inr rfl)))); clear hno ho l6 kp6 R6))
  all_goals (
    have bs := box_set (k' := ⟨qk, qi, qv, qr, qd⟩) HR6.out
    obtain ⟨p0, p1, p2, p3, p4⟩ := K.facts bs
    simp only [K.cell] at p0 p1 p2 p3 p4
    clear x0 x1 x2 x3 x4 z0 k0 k1 k2 k3 k4 y0 y1 y2 y3 y4 bs
    go_wp2
    have o := key_only' (X := fun y => y = zb) (b := zb) (Only.refl _ w6) (.inl rfl) (.int .i64 qk) (.int .i64 qi) (.int .i64 qv) (.int .i64 qr) (.int .u32 qd)
    have bx := L6.out.boxw o (.inr rfl) (by have := H.out.bel.size; have := HE.out; omega)
    have k7 := L6.out.keep_boxw (Y := X) o (fun y hy => ⟨.inl (.inl (.inl hy)), by have := (H.out.hX y hy).1; have := HE.out; omega⟩)
    refine bodyPost_ret (v := .tuple #[.agg #[.int .i64 qk, .int .i64 qi, .int .i64 qv, .int .i64 qr, .int .u32 qd], .nilIface]) (by simp only [results, Tryd.results34, go_sem]; simp [go_sem, p0, p1, p2, p3, p4]) rfl ⟨rfl, bx.less fun y hy => .inl (.inl (.inl hy)), ?_⟩
    exact (K5.out.trans (K6.out.less (X := fun y => ((X y ∨ y = kb) ∨ y = xb) ∨ y = zb) fun y hy => .inl (.inl (.inl hy)))).trans k7)
theorem mem_swap (i : Nat) (x : K) (h : Mm w0 S cb mb D size n X W) (hd : Nd0 D) (hi : i < 16) (hk : okK x) :
    Calls Tryd.prog 34 #[.pointer (some ⟨mb, 0, none⟩), .agg #[.int .i64 2, .int .i64 0, .int .i64 0, .int .i64 0, .int .u32 1], .int .i64 i, x.v] W fun e W' => e = .returned (.tuple #[(D.nk 0 i).v, .nilIface]) ∧ Mm w0 S cb mb { D with nk := up2 D.nk 0 i x } size n X W' ∧ Keep X W W' := by
  obtain ⟨hits, cs, a1, a2, a3, hl⟩ := h.ex
  refine (mem_swap_lk i x hl h.xm h.rm (fun c hc => Nat.le_trans (a3 c hc).1 (by decide)) hd hi hk).mono ?_
  rintro e W' ⟨rfl, h1, h2⟩
  refine ⟨rfl, ⟨⟨hits, _, a1, a2, Good.set (fun c hc => a3 c (List.mem_filter.1 hc).1) 0 i x (fun c hc z hz e => ?_), h1⟩, h.xm, h.rm.of_block (h2.2 mb h.xm)⟩, h2⟩
  have hf := (List.mem_filter.1 hc).2
  have ht : thr [(0 : Int)] c.ns = true := List.any_eq_true.2 ⟨z, hz, by simp [e]⟩
  rw [ht] at hf
  cases hf
end
end Go.Proofs.YtdlemkmkheokkaaDoor
