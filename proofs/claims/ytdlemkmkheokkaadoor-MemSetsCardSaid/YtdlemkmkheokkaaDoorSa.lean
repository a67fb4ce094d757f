/- Contracts of the store's and the memory's Swap, by node 0's key. -/
import Derived.Test.YtdlemkmkheokkaaDoorNe
namespace Go.Proofs.YtdlemkmkheokkaaDoor
open Go.RowKit

theorem has_kn0 (w : World) : Calls Tryd.prog 104 #[.agg #[.int .i64 2, .int .i64 0, .int .i64 0, .int .i64 0, .int .u32 1]] w (BoolBelow w true) := by
  go_enter Tryd.func104, Tryd.ntmps104
  go_wp2
  go_ret
  exact ⟨rfl, (Below.refl _ _).alloc (Nat.le_refl _) _⟩
theorem writes_kn0 (w : World) : Calls Tryd.prog 95 #[.agg #[.int .i64 2, .int .i64 0, .int .i64 0, .int .i64 0, .int .u32 1]] w (BoolBelow w true) := by
  have HS := Lib.hid (fun W => has_kn0 W)
  have hand : (bits .and .i64 0 5 == 0) = true := by decide
  go_enter Tryd.func95, Tryd.ntmps95
  go_wp2_with (fail)
  go_at_call 104
  refine (HS.out _).mono ?_
  rintro e w1 ⟨rfl, hb⟩
  have R := Lib.hid ((kn0.box w 36).below hb)
  have B := Lib.hid (((Below.refl w.heap.size w).alloc (Nat.le_refl _) (.cells #[.int .i64 2, .int .i64 0, .int .i64 0, .int .i64 0, .int .u32 1] 36)).trans (hb.mono (by simp)))
  have c3 : w1.cell? ⟨w.heap.size, 3, none⟩ = some (.int .i64 0) := R.out.cell 3 (by omega)
  clear hb
  go_wp2
  go_ret
  exact ⟨rfl, B.out⟩

theorem bx_below {n b : Nat} {w W : World} (h : Below n w W) (hb : n ≤ b) (v0 v1 v2 v3 v4 : Value) :
    Below n w (((((W.setCell ⟨b, 0, none⟩ v0).setCell ⟨b, 1, none⟩ v1).setCell ⟨b, 2, none⟩ v2).setCell ⟨b, 3, none⟩ v3).setCell ⟨b, 4, none⟩ v4) :=
  ((((h.setCell (p := ⟨b, 0, none⟩) hb _).setCell (p := ⟨b, 1, none⟩) hb _).setCell (p := ⟨b, 2, none⟩) hb _).setCell (p := ⟨b, 3, none⟩) hb _).setCell (p := ⟨b, 4, none⟩) hb _
section
variable {S : SA} {D : SC} {w : World}
theorem live_kn0 (hn : Nd0 D) : liveS D kn0 = true := by
  have h1 := hn.nc
  simp [liveS, liveB, thereB, kn0, hn.th, hn.ve, h1]
set_option maxHeartbeats 800000 in
theorem may_kn0 (h : Sto w S D) (hn : Nd0 D) : Calls Tryd.prog 84 #[.pointer (some ⟨S.s, 0, none⟩), .agg #[.int .i64 2, .int .i64 0, .int .i64 0, .int .i64 0, .int .u32 1], .int .i64 2, .bool true] w (NilBelow w) := by
  have LV := Lib.hid (fun W (hW : Sto W S D) => show Calls Tryd.prog 81 #[.pointer (some ⟨S.s, 0, none⟩), .agg #[.int .i64 2, .int .i64 0, .int .i64 0, .int .i64 0, .int .u32 1]] W (BoolBelow W true) from live_kn0 hn ▸ sto_live S D kn0 W hW)
  have WR := Lib.hid (fun W => writes_kn0 W)
  have h2 : (bits .and .i64 0 2 != 0) = false := by decide
  have H := Lib.hid h
  clear h hn
  go_enter Tryd.func84, Tryd.ntmps84
  go_wp2_with (fail)
  go_at_call 81
  refine (LV.out _ (H.out.below ((Below.refl _ w).alloc (Nat.le_refl _) _))).mono ?_
  rintro e w1 ⟨rfl, hb⟩
  have R := Lib.hid ((kn0.box w 36).below hb)
  have B := Lib.hid (((Below.refl w.heap.size w).alloc (Nat.le_refl _) (.cells #[.int .i64 2, .int .i64 0, .int .i64 0, .int .i64 0, .int .u32 1] 36)).trans (hb.mono (by simp)))
  have c0 : w1.cell? ⟨w.heap.size, 0, none⟩ = some (.int .i64 2) := R.out.cell 0 (by omega)
  have c1 : w1.cell? ⟨w.heap.size, 1, none⟩ = some (.int .i64 0) := R.out.cell 1 (by omega)
  have c2 : w1.cell? ⟨w.heap.size, 2, none⟩ = some (.int .i64 0) := R.out.cell 2 (by omega)
  have c3 : w1.cell? ⟨w.heap.size, 3, none⟩ = some (.int .i64 0) := R.out.cell 3 (by omega)
  have c4 : w1.cell? ⟨w.heap.size, 4, none⟩ = some (.int .u32 1) := R.out.cell 4 (by omega)
  clear hb
  go_wp2_with (fail)
  go_at_call 95
  refine (WR.out _).mono ?_
  rintro e w2 ⟨rfl, hb⟩
  have B2 := Lib.hid (B.out.trans (hb.mono B.out.size))
  clear hb
  go_wp2
  go_ret
  exact ⟨rfl, B2.out⟩
/-- a slot's key is another one -/
def SwapP (S : SA) (D : SC) (i : Nat) (x : K) (w : World) (e : Ending) (w' : World) : Prop :=
  e = .returned (.tuple #[(D.nk 0 i).v, .nilIface]) ∧ No w' S.n D.nc D.na (up2 D.nk 0 i x) ∧ Only (fun y => y = S.n.k) w w'
set_option maxHeartbeats 2000000 in
theorem store_swap (i : Nat) (x : K) (h : Sto w S D) (hn : Nd0 D) (hi : i < 16) (hx : okK x) :
    Calls Tryd.prog 67 #[.pointer (some ⟨S.s, 0, none⟩), .agg #[.int .i64 2, .int .i64 0, .int .i64 0, .int .i64 0, .int .u32 1], .int .i64 i, x.v] w (SwapP S D i x w) := by
  have MY := Lib.hid (fun W (hW : Sto W S D) => may_kn0 hW hn)
  have hcD := h.n256
  have GT := Lib.hid (fun W (hW : No W S.n D.nc D.na D.nk) => get_yes S.n D.nc D.na D.nk 0 i W hW (by omega) hn.nc hn.th hi)
  have VA := Lib.hid (fun W => valid_any x W hx)
  have ST := Lib.hid (fun W (hW : No W S.n D.nc D.na D.nk) => set_yes S.n D.nc D.na D.nk 0 i x W hW (by omega) hn.nc hn.th hi hx)
  have H := Lib.hid h
  obtain ⟨q, hq⟩ : ∃ q, q = D.nk 0 i := ⟨_, rfl⟩
  rw [← hq] at GT
  unfold SwapP
  rw [← hq]
  clear h hn hi hx hcD hq
  obtain ⟨qk, qi, qv, qr, qd⟩ := q
  obtain ⟨xk, xi, xv, xr, xd⟩ := x
  have hb0 : Below w.heap.size w (((w.alloc (.cells #[.int .i64 2, .int .i64 0, .int .i64 0, .int .i64 0, .int .u32 1] 36)).alloc (.cells #[.int .i64 xk, .int .i64 xi, .int .i64 xv, .int .i64 xr, .int .u32 xd] 36)).alloc (.cells #[.int .i64 0, .int .i64 0, .int .i64 0, .int .i64 0, .int .u32 0] 36)) := (((Below.refl _ _).alloc (Nat.le_refl _) _).alloc (by simp) _).alloc (by simp; omega) _
  have rk0 : Row (((w.alloc (.cells #[.int .i64 2, .int .i64 0, .int .i64 0, .int .i64 0, .int .u32 1] 36)).alloc (.cells #[.int .i64 xk, .int .i64 xi, .int .i64 xv, .int .i64 xr, .int .u32 xd] 36)).alloc (.cells #[.int .i64 0, .int .i64 0, .int .i64 0, .int .i64 0, .int .u32 0] 36)) w.heap.size 5 kn0.cell := ((kn0.box w 36).alloc _).alloc _
  have rx0 : Row (((w.alloc (.cells #[.int .i64 2, .int .i64 0, .int .i64 0, .int .i64 0, .int .u32 1] 36)).alloc (.cells #[.int .i64 xk, .int .i64 xi, .int .i64 xv, .int .i64 xr, .int .u32 xd] 36)).alloc (.cells #[.int .i64 0, .int .i64 0, .int .i64 0, .int .i64 0, .int .u32 0] 36)) (w.heap.size + 1) 5 (⟨xk, xi, xv, xr, xd⟩ : K).cell := by
    have := ((⟨xk, xi, xv, xr, xd⟩ : K).box (w.alloc (.cells #[.int .i64 2, .int .i64 0, .int .i64 0, .int .i64 0, .int .u32 1] 36)) 36).alloc (.cells #[.int .i64 0, .int .i64 0, .int .i64 0, .int .i64 0, .int .u32 0] 36)
    rwa [World.size_alloc] at this
  have rz0 : Row (((w.alloc (.cells #[.int .i64 2, .int .i64 0, .int .i64 0, .int .i64 0, .int .u32 1] 36)).alloc (.cells #[.int .i64 xk, .int .i64 xi, .int .i64 xv, .int .i64 xr, .int .u32 xd] 36)).alloc (.cells #[.int .i64 0, .int .i64 0, .int .i64 0, .int .i64 0, .int .u32 0] 36)) (w.heap.size + 1 + 1) 5 K.zero.cell := by
    have := K.zero.box ((w.alloc (.cells #[.int .i64 2, .int .i64 0, .int .i64 0, .int .i64 0, .int .u32 1] 36)).alloc (.cells #[.int .i64 xk, .int .i64 xi, .int .i64 xv, .int .i64 xr, .int .u32 xd] 36)) 36
    rwa [World.size_alloc, World.size_alloc] at this
  obtain ⟨Wa, hWa⟩ : ∃ Wa, Wa = (((w.alloc (.cells #[.int .i64 2, .int .i64 0, .int .i64 0, .int .i64 0, .int .u32 1] 36)).alloc (.cells #[.int .i64 xk, .int .i64 xi, .int .i64 xv, .int .i64 xr, .int .u32 xd] 36)).alloc (.cells #[.int .i64 0, .int .i64 0, .int .i64 0, .int .i64 0, .int .u32 0] 36)) := ⟨_, rfl⟩
  rw [← hWa] at hb0 rk0 rx0 rz0
  have ka0 : Wa.cell? ⟨w.heap.size, 0, none⟩ = some (.int .i64 2) := rk0.cell 0 (by omega)
  have ka1 : Wa.cell? ⟨w.heap.size, 1, none⟩ = some (.int .i64 0) := rk0.cell 1 (by omega)
  have ka2 : Wa.cell? ⟨w.heap.size, 2, none⟩ = some (.int .i64 0) := rk0.cell 2 (by omega)
  have ka3 : Wa.cell? ⟨w.heap.size, 3, none⟩ = some (.int .i64 0) := rk0.cell 3 (by omega)
  have ka4 : Wa.cell? ⟨w.heap.size, 4, none⟩ = some (.int .u32 1) := rk0.cell 4 (by omega)
  have HB := Lib.hid hb0
  have RK := Lib.hid rk0
  have RX := Lib.hid rx0
  have RZ := Lib.hid rz0
  have HWA := Lib.hid hWa
  clear hb0 rk0 rx0 rz0 hWa
  go_enter Tryd.func67, Tryd.ntmps67
  go_wp2_with (fail)
  rw [← HWA.out]
  go_wp2_with (fail)
  go_at_call 84
  refine (MY.out _ (H.out.below HB.out)).mono ?_
  rintro e w1 ⟨rfl, hb1⟩
  have B1 := Lib.hid (HB.out.trans (hb1.mono HB.out.size))
  have RK1 := Lib.hid (RK.out.below hb1)
  have RX1 := Lib.hid (RX.out.below hb1)
  have RZ1 := Lib.hid (RZ.out.below hb1)
  clear hb1 ka0 ka1 ka2 ka3 ka4 MY HB RK RX RZ HWA
  have S1 := Lib.hid (H.out.below B1.out)
  have z0 : w1.cell? ⟨S.s, 0, none⟩ = some (.pointer (some ⟨S.n.b, 0, none⟩)) := S1.out.p0
  have k1 : w1.cell? ⟨w.heap.size, 1, none⟩ = some (.int .i64 0) := RK1.out.cell 1 (by omega)
  have lS : S.s < w1.heap.size := S1.out.lt S.s (.inl rfl)
  have lK : w.heap.size < w1.heap.size := RK1.out.lt
  have nS : ¬ S.s = w1.heap.size := by omega
  have nK : ¬ w.heap.size = w1.heap.size := by omega
  go_wp2_with (fail)
  go_cut [11, 12] from 15 to 57 (fun s11 s12 wx => ∃ xb : Nat, s11 = .pointer (some ⟨xb, 0, none⟩) ∧ s12 = .bool true ∧ Hid (Below w1.heap.size w1 wx ∧ w1.heap.size ≤ xb ∧ Row wx xb 5 (⟨qk, qi, qv, qr, qd⟩ : K).cell))
  case first =>
    have NO1 := Lib.hid (show No w1.drew S.n D.nc D.na D.nk from S1.out.no.below ((Below.refl _ _).drew))
    have BB1 := Lib.hid (show Below w1.heap.size w1 w1.drew from (Below.refl _ _).drew)
    have ZB : Hid (Row (w1.alloc (.cells #[.int .i64 0, .int .i64 0, .int .i64 0, .int .i64 0, .int .u32 0] 36)).drew w1.heap.size 5 K.zero.cell) := (K.zero.box w1 36).of_block rfl
    have NO2 := Lib.hid (show No (w1.alloc (.cells #[.int .i64 0, .int .i64 0, .int .i64 0, .int .i64 0, .int .u32 0] 36)).drew S.n D.nc D.na D.nk from NO1.out.below ((Below.refl _ _).alloc (Nat.le_refl _) (.cells #[.int .i64 0, .int .i64 0, .int .i64 0, .int .i64 0, .int .u32 0] 36)))
    have BB2 := Lib.hid (show Below w1.heap.size w1 (w1.alloc (.cells #[.int .i64 0, .int .i64 0, .int .i64 0, .int .i64 0, .int .u32 0] 36)).drew from ((Below.refl _ _).alloc (Nat.le_refl _) (.cells #[.int .i64 0, .int .i64 0, .int .i64 0, .int .i64 0, .int .u32 0] 36)).drew)
    go_region_with ((go_at_call 47; refine (GT.out _ (by first | exact NO1.out | exact NO2.out)).mono ?_; rintro e w5 ⟨rfl, hb5⟩; (first | (have r5 : Row w5 w1.heap.size 5 K.zero.cell := ZB.out.below hb5; have B5 := Lib.hid (BB2.out.trans (hb5.mono BB2.out.size)); have R5 := Lib.hid r5; obtain ⟨y0, y1, y2, y3, y4⟩ := K.facts r5; have f0 := r5.frozen 0; have f1 := r5.frozen 1; have f2 := r5.frozen 2; have f3 := r5.frozen 3; have f4 := r5.frozen 4; clear r5) | (have B5 := Lib.hid (BB1.out.trans (hb5.mono BB1.out.size)))); clear hb5))
    all_goals (go_wp2_with (fail); go_meet; first | (have r5 := R5.out; exact ⟨w1.heap.size, rfl, rfl, Lib.hid ⟨bx_below B5.out (Nat.le_refl _) _ _ _ _ _, Nat.le_refl _, box_set (k' := ⟨qk, qi, qv, qr, qd⟩) r5⟩⟩) | exact ⟨w5.heap.size, rfl, rfl, Lib.hid ⟨B5.out.alloc B5.out.size _, B5.out.size, K.box ⟨qk, qi, qv, qr, qd⟩ w5 36⟩⟩)
  case rest =>
    obtain ⟨xb, rfl, rfl, hh⟩ := hcut
    have HC := Lib.hid hh.out
    have SC1 := Lib.hid (S1.out.below HC.out.1)
    have RKc := Lib.hid (RK1.out.below HC.out.1)
    have RXc := Lib.hid (RX1.out.below HC.out.1)
    have RZc := Lib.hid (RZ1.out.below HC.out.1)
    have RQc := Lib.hid HC.out.2.2
    have Bc := Lib.hid (B1.out.trans (HC.out.1.mono B1.out.size))
    have HX := Lib.hid HC.out.2.1
    clear hh z0 k1 nS nK GT RK1 RX1 RZ1 B1 HC S1
    obtain ⟨x0, x1, x2, x3, x4⟩ := K.facts RXc.out
    go_wp2_with (fail)
    go_at_call 59
    refine (VA.out _).mono ?_
    rintro e w6 ⟨rfl, hb6⟩
    have S6 := Lib.hid (SC1.out.below hb6)
    have RK6 := Lib.hid (RKc.out.below hb6)
    have RX6 := Lib.hid (RXc.out.below hb6)
    have RZ6 := Lib.hid (RZc.out.below hb6)
    have RQ6 := Lib.hid (RQc.out.below hb6)
    have B6 := Lib.hid (Bc.out.trans (hb6.mono Bc.out.size))
    clear hb6 x0 x1 x2 x3 x4 VA SC1 RKc RXc RZc RQc Bc
    have z0 : w6.cell? ⟨S.s, 0, none⟩ = some (.pointer (some ⟨S.n.b, 0, none⟩)) := S6.out.p0
    have k1 : w6.cell? ⟨w.heap.size, 1, none⟩ = some (.int .i64 0) := RK6.out.cell 1 (by omega)
    obtain ⟨x0, x1, x2, x3, x4⟩ := K.facts RX6.out
    have lnk := H.out.lt S.n.k (.inr (.inl (NA.hk _)))
    have NK1 : Hid (¬ w.heap.size = S.n.k) := Lib.hid (by omega)
    have NK2 : Hid (¬ w.heap.size + 1 = S.n.k) := Lib.hid (by omega)
    have NK3 : Hid (¬ w.heap.size + 1 + 1 = S.n.k) := Lib.hid (by omega)
    have NK4 : Hid (¬ xb = S.n.k) := Lib.hid (by have := HX.out; omega)
    have nS : Hid (¬ S.s = S.n.k) := Lib.hid (fun e => H.out.ok.sn (e ▸ NA.hk _))
    have SS := Lib.hid (ST.out w6.drew (S6.out.no.below ((Below.refl _ _).drew)))
    clear lnk lS lK ST
    go_wp2_with (fail)
    go_region_held3 (fun V => V.cell? ⟨S.s, 0, none⟩ = some (.pointer (some ⟨S.n.b, 0, none⟩)) ∧ V.cell? ⟨w.heap.size, 1, none⟩ = some (.int .i64 0) ∧ V.cell? ⟨w.heap.size + 1, 0, none⟩ = some (.int .i64 xk) ∧ V.cell? ⟨w.heap.size + 1, 1, none⟩ = some (.int .i64 xi) ∧ V.cell? ⟨w.heap.size + 1, 2, none⟩ = some (.int .i64 xv) ∧ V.cell? ⟨w.heap.size + 1, 3, none⟩ = some (.int .i64 xr) ∧ V.cell? ⟨w.heap.size + 1, 4, none⟩ = some (.int .u32 xd))
      (first | exact ⟨z0, k1, x0, x1, x2, x3, x4⟩ | go_keep)
      ((go_at_call 24; refine (SS.out).mono ?_; rintro e w7 ⟨rfl, hno, ho⟩; have HN := Lib.hid hno; have HO := Lib.hid ho; have z0 : w7.cell? ⟨S.s, 0, none⟩ = some (.pointer (some ⟨S.n.b, 0, none⟩)) := ((S6.out.hd.of_block rfl : Row w6.drew S.s 2 _).only ho nS.out).cell 0 (by omega); have k1 : w7.cell? ⟨w.heap.size, 1, none⟩ = some (.int .i64 0) := ((RK6.out.of_block rfl : Row w6.drew w.heap.size 5 kn0.cell).only ho NK1.out).cell 1 (by omega); obtain ⟨x0, x1, x2, x3, x4⟩ := K.facts ((RX6.out.of_block rfl : Row w6.drew (w.heap.size + 1) 5 (⟨xk, xi, xv, xr, xd⟩ : K).cell).only ho NK2.out); clear hno ho))
    have RZ7 := Lib.hid ((RZ6.out.of_block rfl : Row w6.drew (w.heap.size + 1 + 1) 5 K.zero.cell).only HO.out NK3.out)
    have RQ7 := Lib.hid ((RQ6.out.of_block rfl : Row w6.drew xb 5 (⟨qk, qi, qv, qr, qd⟩ : K).cell).only HO.out NK4.out)
    obtain ⟨q0, q1, q2, q3, q4⟩ := K.facts RQ7.out
    obtain ⟨y0, y1, y2, y3, y4⟩ := K.facts RZ7.out
    have f0 := RZ7.out.frozen 0
    have f1 := RZ7.out.frozen 1
    have f2 := RZ7.out.frozen 2
    have f3 := RZ7.out.frozen 3
    have f4 := RZ7.out.frozen 4
    obtain ⟨m0, m1, m2, m3, m4⟩ := K.facts (box_set (k' := ⟨qk, qi, qv, qr, qd⟩) RZ7.out)
    simp only [K.cell] at m0 m1 m2 m3 m4
    clear x0 x1 x2 x3 x4 z0 k1
    go_wp2
    refine bodyPost_ret (v := .tuple #[.agg #[.int .i64 qk, .int .i64 qi, .int .i64 qv, .int .i64 qr, .int .u32 qd], .nilIface]) (by simp only [results, Tryd.results67, go_sem]; simp [go_sem, m0, m1, m2, m3, m4]) rfl ⟨rfl, ?_, ?_⟩
    · exact HN.out.only (key_only' (X := fun y => y = w.heap.size + 1 + 1) (b := w.heap.size + 1 + 1) (Only.refl _ w7) (.inl rfl) (.int .i64 qk) (.int .i64 qi) (.int .i64 qv) (.int .i64 qr) (.int .u32 qd)) (fun y hy e => by have := H.out.lt y (.inr (.inl hy)); omega)
    · have o1 : Only (fun y => y = S.n.k) w w6.drew := (Only.of_below _ B6.out).drew
      exact key_only' (o1.trans HO.out) (.inr (by omega)) _ _ _ _ _
end
end Go.Proofs.YtdlemkmkheokkaaDoor
