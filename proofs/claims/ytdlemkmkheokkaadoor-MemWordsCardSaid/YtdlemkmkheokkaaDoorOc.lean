/- turnkeylaw11.MemWords answers true for every input: the walk. -/
import Derived.Test.YtdlemkmkheokkaaDoorNe
namespace Go.Proofs.YtdlemkmkheokkaaDoor
open Go.RowKit

def pkW : Nat → K := fun s => ⟨3, s, 0, 0, 0⟩
def zs512 : Array Value := (Array.range 512).map fun _ => .int .u32 0
theorem zero90 (w : World) : (zeroValue 90).run Tryd.prog w = .ok (.agg zs512) w := by kernel_rfl
theorem zs512_size : zs512.size = 512 := by simp [zs512]
theorem zs512_get : ∀ i, i < 512 → zs512[i]? = some (.int .u32 0) := by intro i hi; simp [zs512, hi]
/-- node 0 has pages in its first n slots, of no words -/
structure Wd (n : Nat) (D : SC) : Prop where
  fl : Fl 2 16 (acPre n) pkW n D
  pw : ∀ p x, D.pw p x = 0
theorem wd_page {n : Nat} {D : SC} (h : Wd n D) : Fl 2 16 (acPre (n + 1)) pkW n { D with pa := D.pa.take n, pw := up D.pw n (pageWords 0 fun _ => 0) } ∧ ∀ p x, (up D.pw n (pageWords 0 fun _ => 0)) p x = 0 := by
  refine ⟨⟨h.fl.nc, h.fl.pc, by show D.pa.take n = _; rw [h.fl.pa]; exact acPre_take n, h.fl.na, h.fl.ks⟩, fun p x => ?_⟩
  unfold up
  split
  · simp [pageWords]
  · exact h.pw p x
/-- all 16 pages are there -/
structure Wf (D : SC) : Prop where
  nd : Nd0 D
  pc : D.pc = 16
  pa : D.pa = acPre 16
  ks : ∀ s, s < 16 → D.nk 0 s = pkW s
theorem Wf.pw {D : SC} (h : Wf D) (pw : Nat → Nat → Int) : Wf { D with pw := pw } := ⟨⟨h.nd.nc, h.nd.th, h.nd.ve⟩, h.pc, h.pa, h.ks⟩
theorem wf_way {D : SC} (h : Wf D) (a : Int) (h0 : 0 ≤ a) (h1 : a < 512) : wayF D kn0 a = ⟨a / 32, a % 32, false, 0, [0]⟩ := by
  obtain ⟨t, ht, ht16⟩ : ∃ t : Nat, a / 32 = (t : Int) ∧ t < 16 := ⟨(a / 32).toNat, by omega, by omega⟩
  rw [slot_page h.nd t t ht16 a ht (h.ks t ht16) (by rw [h.pc]; exact ht16) (by rw [h.pa]; exact acPre_th 16 t ht16) (by rw [h.pa]; rfl), ht]
theorem wf_far {D : SC} (h : Wf D) (a : Int) (h1 : 512 ≤ a) : wayF D kn0 a = ⟨0, 0, false, 3, []⟩ := by
  have hm : (memB kn0 && liveS D kn0) = true := by
    have h1 := h.nd.nc
    simp [memB, liveS, liveB, thereB, kn0, h.nd.th, h.nd.ve, h1]
  exact walkF_range hm (by decide) h1
theorem wf_key {D : SC} (h : Wf D) (t : Nat) (ht : t < 16) (x : Int) (h1 : x < 32) : wayF D ⟨3, t, 0, 0, 0⟩ x = ⟨t, x, false, 0, []⟩ := by
  have := page_walk (C := D) t 0 (by rw [h.pc]; exact ht) (by rw [h.pa]; exact acPre_th 16 t ht) (by rw [h.pa]; rfl) 4 x h1 false 5 (by omega)
  exact this
theorem add_block (a : Addr) (i : Nat) : (a.add i).block = a.block := by
  unfold Addr.add
  split <;> rfl
/-- at the loops over the words -/
structure WI (w0 : World) (S : SA) (cb mb kb hb : Nat) (n : Int) (D : SC) (W : World) : Prop where
  mm : Mm w0 S cb mb D 3 n (fun x => (x = mb ∨ x = kb) ∨ x = hb) W
  wf : Wf D
  rk : Row W kb 5 kn0.cell
  rh : Row W hb 512 (wordCell D.pw)
  h0 : w0.heap.size ≤ hb
  hm : mb ≠ hb
  hk : kb ≠ hb

theorem WI.more {w0 : World} {S : SA} {cb mb kb hb : Nat} {n m : Int} {D : SC} {W : World} (h : WI w0 S cb mb kb hb n D W) (e : n ≤ m) : WI w0 S cb mb kb hb m D W := ⟨h.mm.more e, h.wf, h.rk, h.rh, h.h0, h.hm, h.hk⟩
theorem WI.step {w0 : World} {S : SA} {cb mb kb hb : Nat} {n m : Int} {D : SC} {W W' : World} (h : WI w0 S cb mb kb hb n D W) (hm : Mm w0 S cb mb D 3 m (fun x => (x = mb ∨ x = kb) ∨ x = hb) W') (hk : Keep (fun x => (x = mb ∨ x = kb) ∨ x = hb) W W') : WI w0 S cb mb kb hb m D W' :=
  ⟨hm, h.wf, h.rk.of_block (hk.2 _ (.inl (.inr rfl))), h.rh.of_block (hk.2 _ (.inr rfl)), h.h0, h.hm, h.hk⟩

set_option maxRecDepth 100000 in
set_option maxHeartbeats 4000000 in
theorem memWords_walk (A : Option Addr) (l : List Int) (cap : Nat) (ask : Int) (hz : ∀ z ∈ l, 0 ≤ z ∧ z < 4294967296) (w : World) (hA : l ≠ [] → ∃ a : Addr, A = some a ∧ a.block < w.heap.size ∧ ∀ i z, l[i]? = some z → w.cell? (a.add i) = some (.int .u32 z)) (hcap : l.length ≤ cap) (ha : 0 ≤ ask ∧ ask < 4294967296) :
    Calls Tryd.prog 15 #[.slice A l.length cap, .int .u32 ask] w (TrueBelow w) := by
  obtain ⟨ha0, ha1⟩ := ha
  have F9 := Lib.hid (fun W => first11 W)
  have MN := Lib.hid (show ∀ W, Calls Tryd.prog 28 #[.int .i64 2, .int .i64 16, .int .i64 3] W (NewMe W 2 16 3) from fun W => mem_new 2 16 3 W (by omega) (by omega) (by omega) (by omega) (by omega) (by omega))
  have HA := Lib.hid hA
  have HZ := Lib.hid hz
  clear hA hz
  by_cases hlen : 60 < l.length
  · have e1 : decide ((60 : Int) < (l.length : Int)) = true := by simp; omega
    have e2 : decide ((l.length : Int) > 60) = true := by simp; omega
    clear hlen
    go_enter Tryd.func15, Tryd.ntmps15
    go_wp2_with (fail)
    go_at_call 27
    refine (F9.out _).mono ?_
    rintro e w1 ⟨rfl, hb1⟩
    have HB1 := Lib.hid hb1
    clear hb1
    go_wp2
    go_ret
    exact ⟨rfl, HB1.out⟩
  · have e1 : decide ((60 : Int) < (l.length : Int)) = false := by simp; omega
    have e2 : decide ((l.length : Int) > 60) = false := by simp; omega
    have hl60 : l.length ≤ 60 := by omega
    clear hlen
    go_enter Tryd.func15, Tryd.ntmps15
    go_wp2_with (fail)
    go_at_call 27
    refine (F9.out _).mono ?_
    rintro e w1 ⟨rfl, hb1⟩
    have HB1 := Lib.hid hb1
    clear hb1
    go_wp2_with (fail)
    go_at_call 28
    refine (MN.out _).mono ?_
    rintro e w2 ⟨S, cb, mb, rfl, hmb, hm⟩
    have M2 := Lib.hid (hm.rebase HB1.out)
    have lmb := HB1.out.size
    have q0 := M2.out.mm.q0
    have q1 := M2.out.mm.sto.p0
    go_wp2_with (fail)
    go_at_call 21
    refine (nmake0 S.n 2 AC.zero _ 0 w2 M2.out.mm.sto.no (by omega) (by omega) (fun j h => absurd h (Nat.not_lt_zero j)) rfl rfl).mono ?_
    rintro e w3 ⟨rfl, hno, ho⟩
    have I0 : Hid (∃ D, Wd 0 D ∧ Me0 w S cb mb D 3 0 (fun x => x = mb) w3) := ⟨_, ⟨⟨rfl, rfl, acPre_zero.symm, take_pre0, fun s hs => absurd hs (Nat.not_lt_zero s)⟩, fun _ _ => rfl⟩, (M2.out.make hno ho).1⟩
    clear hm hno ho M2 q0 q1 HB1 MN F9
    go_wp2_with (fail)
    go_loopw [8] (fun t wr => ∃ i : Nat, i ≤ 16 ∧ t = .int .i64 i ∧ Hid (∃ D, Wd i D ∧ Me0 w S cb mb D 3 0 (fun x => x = mb) wr)) (fun t _ => 16 - (intOf t).toNat)
    case atStart => exact ⟨0, by omega, rfl, I0⟩
    case round =>
      clear I0
      obtain ⟨i, hi, rfl, I⟩ := hrel
      obtain ⟨D, hW, hM⟩ := I.out
      by_cases hil : i < 16
      · have hlt : (i : Int) < 16 := by omega
        have q0 := hM.mm.q0
        have q1 := hM.mm.sto.p1
        have PM := Lib.hid (pmake0 S.p D.pc D.pa D.pw i wr hM.mm.sto.pg (by rw [hW.fl.pc]; omega) (by rw [hW.fl.pc]; omega) (fun j h => by rw [hW.fl.pa]; exact acPre_th i j h) (by rw [hW.fl.pa]; exact acPre_not i i (Nat.le_refl _)) (by rw [hW.fl.pa]; rfl))
        have HW := Lib.hid hW
        have HM := Lib.hid hM
        clear hW hM I
        go_wp2_with (fail)
        go_at_call 19
        refine (PM.out).mono ?_
        rintro e w4 ⟨rfl, hpg, ho⟩
        obtain ⟨D4, hD4⟩ : ∃ D4 : SC, D4 = { D with pa := D.pa.take i, pw := up D.pw i (pageWords 0 fun _ => 0) } := ⟨_, rfl⟩
        have M4 := Lib.hid (show Me0 w S cb mb D4 3 0 (fun x => x = mb) w4 by rw [hD4]; exact (HM.out.page hpg ho).1)
        have F4 := Lib.hid (show Fl 2 16 (acPre (i + 1)) pkW i D4 by rw [hD4]; exact (wd_page HW.out).1)
        have P4 := Lib.hid (show ∀ p x, D4.pw p x = 0 by rw [hD4]; exact (wd_page HW.out).2)
        clear hpg ho hD4 PM HM HW q0 q1
        have q0 := M4.out.mm.q0
        have PK := Lib.hid (show Calls Tryd.prog 20 #[.pointer (some ⟨S.s, 0, none⟩), .int .i64 i] w4 (KeyBelow w4 ⟨3, i, 0, 0, 0⟩) from by
          have := page_key S D4 i w4 M4.out.mm.sto (by rw [F4.out.pc]; omega) (by rw [F4.out.pa]; exact acPre_th (i + 1) i (by omega))
          rwa [show D4.pa.ve i = 0 by rw [F4.out.pa]; rfl] at this)
        go_wp2_with (fail)
        go_at_call 20
        refine (PK.out).mono ?_
        rintro e w5 ⟨rfl, hb5⟩
        have M5 := Lib.hid (M4.out.below hb5)
        have ST := Lib.hid (show Calls Tryd.prog 35 #[.pointer (some ⟨mb, 0, none⟩), .int .i64 0, .int .i64 i, (⟨3, i, 0, 0, 0⟩ : K).v] w5 (fun e W' => e = .returned .nilIface ∧ Me0 w S cb mb { D4 with nk := up2 D4.nk 0 i ⟨3, i, 0, 0, 0⟩ } 3 0 (fun x => x = mb) W' ∧ Keep (fun x => x = mb) w5 W') from mem_set0 0 i ⟨3, i, 0, 0, 0⟩ M5.out (by rw [F4.out.nc]; omega) (by rw [F4.out.na]; exact acPre_th 1 0 (by omega)) hil (ok_page i (by omega) (by omega)))
        clear hb5 q0 PK
        go_wp2_with (fail)
        go_at_call 35
        refine (ST.out).mono ?_
        rintro e w6 ⟨rfl, hm6, hk6⟩
        have I6 : Hid (∃ D, Wd (i + 1) D ∧ Me0 w S cb mb D 3 0 (fun x => x = mb) w6) := ⟨_, ⟨F4.out.set, P4.out⟩, hm6⟩
        clear hm6 hk6 ST M5 M4
        go_wp2
        go_roundw
        case rel => exact ⟨i + 1, by omega, by go_num, I6⟩
        case measure => simp [intOf]; omega
      · obtain rfl : i = 16 := by omega
        have q0 := hM.mm.q0
        have NK := Lib.hid (show Calls Tryd.prog 22 #[.pointer (some ⟨S.s, 0, none⟩), .int .i64 0, .int .i64 1] wr (KeyBelow wr ⟨2, 0, 0, 0, 1⟩) from by
          have := node_key S D 0 1 wr hM.mm.sto (by rw [hW.fl.nc]; omega) (by rw [hW.fl.na]; exact acPre_th 1 0 (by omega)) (by omega) (by omega)
          rwa [show D.na.ve 0 = 0 by rw [hW.fl.na]; rfl] at this)
        have HW := Lib.hid hW
        have HM := Lib.hid hM
        clear hW hM I
        go_wp2_with (fail)
        go_at_call 22
        refine (NK.out).mono ?_
        rintro e w5 ⟨rfl, hb5⟩
        have M6 := Lib.hid ((HM.out.below hb5).new (.cells #[.int .i64 2, .int .i64 0, .int .i64 0, .int .i64 0, .int .u32 1] 36))
        have RK := Lib.hid (kn0.box w5 36)
        have lw5 := (HM.out.below hb5).mm.bel.size
        have lm5 := ((HM.out.below hb5).mm.hX mb rfl).1
        clear hb5 q0 NK
        go_wp2_with (refine wpList_alloc_big rfl 90 rfl zs512 zero90 ?_)
        obtain ⟨w6, hw6⟩ : ∃ w6, w6 = (w5.alloc (.cells #[.int .i64 2, .int .i64 0, .int .i64 0, .int .i64 0, .int .u32 1] 36)).alloc (.cells zs512 90) := ⟨_, rfl⟩
        have I0 : Hid (WI w S cb mb w5.heap.size (w5.heap.size + 1) 0 D w6) := by
          have rh := Row.new (w5.alloc (.cells #[.int .i64 2, .int .i64 0, .int .i64 0, .int .i64 0, .int .u32 1] 36)) zs512 90 512 (wordCell D.pw) zs512_size (fun j hj => by rw [zs512_get j hj]; simp [wordCell, HW.out.pw])
          rw [World.size_alloc] at rh
          rw [hw6]
          refine ⟨(M6.out.mm.box ((Below.refl _ _).alloc (Nat.le_refl _) _) (by simp) (by simp)), ⟨⟨by rw [HW.out.fl.nc]; omega, by rw [HW.out.fl.na]; exact acPre_th 1 0 (by omega), by rw [HW.out.fl.na]; rfl⟩, HW.out.fl.pc, HW.out.fl.pa, HW.out.fl.ks⟩, RK.out.alloc _, rh, by omega, by omega, by omega⟩
        clear M6 RK HM HW
        rw [← hw6]
        clear hw6
        obtain ⟨kb, hkb⟩ : ∃ kb, kb = w5.heap.size := ⟨_, rfl⟩
        obtain ⟨hb, hhb⟩ : ∃ hb, hb = w5.heap.size + 1 := ⟨_, rfl⟩
        rw [← hhb, ← hkb] at I0 ⊢
        clear hkb hhb lw5 lm5
        go_loopw [11] (fun t wr => ∃ (i : Nat) (D : SC), i ≤ l.length ∧ t = .int .i64 i ∧ Hid (WI w S cb mb kb hb i D wr)) (fun t _ => l.length - (intOf t).toNat)
        case atStart => exact ⟨0, D, by omega, rfl, I0⟩
        case round =>
          clear I0
          obtain ⟨i, D, hi, rfl, I⟩ := hrel
          by_cases hil : i < l.length
          · obtain ⟨z, hz⟩ : ∃ z, l[i]? = some z := ⟨l[i], List.getElem?_eq_getElem hil⟩
            obtain ⟨a, rfl, hab, hac⟩ := HA.out (by rintro rfl; simp at hil)
            have HAB := Lib.hid hab
            have HAC := Lib.hid (hac i z hz)
            have cellz : Hid (∀ W : World, Below w.heap.size w W → W.cell? (a.add i) = some (.int .u32 z)) := fun W b => (World.cell?_of_block (by rw [add_block]; exact b.block _ HAB.out)).trans HAC.out
            obtain ⟨z0, z1⟩ := HZ.out z (List.mem_of_getElem? hz)
            obtain ⟨x, hx, hx6⟩ : ∃ x : Nat, z % 600 = (x : Int) ∧ x < 600 := ⟨(z % 600).toNat, by omega, by omega⟩
            have hlt : (i : Int) < (l.length : Int) := by omega
            have d0 := cellz.out wr I.out.mm.bel
            have d1 := cellz.out wr.drew I.out.mm.bel.drew
            obtain ⟨c0, c1, c2, c3, c4⟩ := K.facts I.out.rk
            have MD := Lib.hid (I.out.mm.below ((Below.refl _ wr).drew))
            have SV := Lib.hid (mem_save kn0 (x : Int) z MD.out (by omega) (by omega) (by omega))
            clear hz hab hac
            by_cases h512 : 512 ≤ x
            · have g1 : decide ((512 : Int) ≤ (x : Int)) = true := by simp; omega
              rw [wf_far I.out.wf x (by omega)] at SV
              clear h512
              go_wp2_with (fail)
              go_region_held3 (fun V => V.cell? (a.add i) = some (.int .u32 z) ∧ V.cell? ⟨kb, 0, none⟩ = some (.int .i64 2) ∧ V.cell? ⟨kb, 1, none⟩ = some (.int .i64 0) ∧ V.cell? ⟨kb, 2, none⟩ = some (.int .i64 0) ∧ V.cell? ⟨kb, 3, none⟩ = some (.int .i64 0) ∧ V.cell? ⟨kb, 4, none⟩ = some (.int .u32 1))
                (first | exact ⟨d1, c0, c1, c2, c3, c4⟩ | exact ⟨d2, c0, c1, c2, c3, c4⟩ | go_keep)
                ((go_at_call 29; refine (SV.out).mono ?_; rintro e w7 ⟨rfl, hm7, hk7⟩; have I7 := Lib.hid (show WI w S cb mb kb hb (i + 1) D w7 from ⟨hm7, I.out.wf, I.out.rk.of_block (hk7.2 _ (.inl (.inr rfl))), I.out.rh.of_block (hk7.2 _ (.inr rfl)), I.out.h0, I.out.hm, I.out.hk⟩); have d2 := cellz.out w7 hm7.bel; obtain ⟨c0, c1, c2, c3, c4⟩ := K.facts I7.out.rk; clear hm7 hk7))
              go_wp2
              go_roundw
              case rel => exact ⟨i + 1, D, by omega, by go_num, by push_cast; exact I7⟩
              case measure => simp [intOf]; omega
            · have g1 : decide ((512 : Int) ≤ (x : Int)) = false := by simp; omega
              have hx5 : x < 512 := by omega
              rw [wf_way I.out.wf x (by omega) (by omega)] at SV
              have hx5' : (x : Int) < 512 := by omega
              clear h512
              have SV2 := Lib.hid (show Calls Tryd.prog 29 #[.pointer (some ⟨mb, 0, none⟩), kn0.v, .int .u32 (x : Int), .int .u32 z] wr.drew (fun e W' => e = .returned (.int .i64 0) ∧ Mm w S cb mb { D with pw := up2 D.pw (x / 32) (x % 32) z } 3 (i + 1) (fun x => (x = mb ∨ x = kb) ∨ x = hb) W' ∧ Keep (fun x => (x = mb ∨ x = kb) ∨ x = hb) wr.drew W') from SV.out.mono (by
                rintro e W' ⟨rfl, h1, h2⟩
                refine ⟨rfl, ?_, h2⟩
                have e1 : ((x : Int) / 32).toNat = x / 32 := by omega
                have e2 : ((x : Int) % 32).toNat = x % 32 := by omega
                have h3 : saveD D ⟨(x : Int) / 32, (x : Int) % 32, false, 0, [0]⟩ z = { D with pw := up2 D.pw (x / 32) (x % 32) z } := by rw [← e1, ← e2]; rfl
                rw [h3] at h1
                exact h1))
              clear SV
              go_wp2_with (fail)
              go_region_held3 (fun V => V.cell? (a.add i) = some (.int .u32 z) ∧ V.cell? ⟨kb, 0, none⟩ = some (.int .i64 2) ∧ V.cell? ⟨kb, 1, none⟩ = some (.int .i64 0) ∧ V.cell? ⟨kb, 2, none⟩ = some (.int .i64 0) ∧ V.cell? ⟨kb, 3, none⟩ = some (.int .i64 0) ∧ V.cell? ⟨kb, 4, none⟩ = some (.int .u32 1))
                (first | exact ⟨d1, c0, c1, c2, c3, c4⟩ | exact ⟨d2, c0, c1, c2, c3, c4⟩ | go_keep)
                ((go_at_call 29; refine (SV2.out).mono ?_; rintro e w7 ⟨rfl, hm7, hk7⟩; have RK7 := Lib.hid (I.out.rk.of_block (w' := w7) (hk7.2 _ (.inl (.inr rfl)))); have RH7 := Lib.hid (I.out.rh.of_block (w' := w7) (hk7.2 _ (.inr rfl))); have M7 := Lib.hid hm7; have d2 := cellz.out w7 hm7.bel; obtain ⟨c0, c1, c2, c3, c4⟩ := K.facts RK7.out; clear hm7 hk7))
              have y0 := RH7.out.cell x hx5
              have y1 := RH7.out.frozen x
              have I8 : Hid (WI w S cb mb kb hb (i + 1) { D with pw := up2 D.pw (x / 32) (x % 32) z } (w7.setCell ⟨hb, x, none⟩ (.int .u32 z))) := by
                have o : Only (fun g => g = hb) w7 (w7.setCell ⟨hb, x, none⟩ (.int .u32 z)) := (Only.refl (fun g : Nat => g = hb) w7).setCell ⟨hb, x, none⟩ _ (.inl rfl)
                refine ⟨M7.out.boxw o (.inr rfl) I.out.hm I.out.h0, I.out.wf.pw _, RK7.out.only o I.out.hk, (RH7.out.set x (.int .u32 z)).congr fun j _ => ?_, I.out.h0, I.out.hm, I.out.hk⟩
                have := wordCell_set D.pw (x / 32) (x % 32) z (Nat.mod_lt _ (by omega)) j
                rwa [show x / 32 * 32 + x % 32 = x by omega] at this
              go_wp2
              go_roundw
              case rel => exact ⟨i + 1, _, by omega, by go_num, by push_cast; exact I8⟩
              case measure => simp [intOf]; omega
          · obtain rfl : i = l.length := by omega
            have hbb : decide ((l.length : Int) < (l.length : Int)) = false := by simp
            have hq0 : 0 ≤ ask % 512 := by omega
            have hq1 : ask % 512 < 512 := by omega
            have I9 := Lib.hid (I.out.more (show ((l.length : Nat) : Int) ≤ 60 + ((0 : Nat) : Int) by omega))
            clear I HA HZ e1 e2
            go_wp2_with (fail)
            go_loopw [14] (fun t wr => ∃ i : Nat, i ≤ 518 ∧ t = .int .u32 i ∧ Hid (WI w S cb mb kb hb (60 + (i : Int)) D wr)) (fun t _ => 600 - (intOf t).toNat)
            case atStart => exact ⟨0, by omega, rfl, I9⟩
            case round =>
              clear I9
              obtain ⟨i, hi, rfl, I⟩ := hrel
              by_cases hil : i < 512
              · have hlt : (i : Int) < 512 := by omega
                obtain ⟨x, hx, hx5⟩ : ∃ x : Nat, ((i : Int) + ask % 512) % 512 = (x : Int) ∧ x < 512 := ⟨(((i : Int) + ask % 512) % 512).toNat, by omega, by omega⟩
                obtain ⟨p, r, hp, hr, hp16, hr32, hxp⟩ : ∃ p r : Nat, (x : Int) / 32 = (p : Int) ∧ (x : Int) % 32 = (r : Int) ∧ p < 16 ∧ r < 32 ∧ p * 32 + r = x := ⟨x / 32, x % 32, by omega, by omega, by omega, by omega, by omega⟩
                obtain ⟨v, hv⟩ : ∃ v, v = D.pw p r := ⟨_, rfl⟩
                have HVV := Lib.hid hv
                have LD := Lib.hid (show Calls Tryd.prog 32 #[.pointer (some ⟨mb, 0, none⟩), kn0.v, .int .u32 (x : Int)] wr (fun e W' => e = .returned (.tuple #[.int .u32 v, .int .i64 0]) ∧ Mm w S cb mb D 3 (60 + (i : Int) + 1) (fun x => (x = mb ∨ x = kb) ∨ x = hb) W' ∧ Keep (fun x => (x = mb ∨ x = kb) ∨ x = hb) wr W') from by
                  have := mem_load kn0 (x : Int) I.out.mm (by omega) (by omega) (by omega)
                  rw [wf_way I.out.wf x (by omega) (by omega), hp, hr] at this
                  rw [hv]
                  exact this)
                obtain ⟨c0, c1, c2, c3, c4⟩ := K.facts I.out.rk
                have hx5' : (x : Int) < 512 := by omega
                clear hv
                go_wp2_with (fail)
                go_at_call 32
                refine (LD.out).mono ?_
                rintro e w7 ⟨rfl, hm7, hk7⟩
                have I7 := Lib.hid (I.out.step hm7 hk7)
                clear hm7 hk7 LD c0 c1 c2 c3 c4
                have z0 := I7.out.mm.q0
                have z1 := I7.out.mm.sto.p1
                have RD := Lib.hid (show Calls Tryd.prog 33 #[.pointer (some ⟨S.p.b, 0, none⟩), .int .i64 p, .int .i64 r] w7 (fun e w' => e = .returned (.tuple #[.int .u32 v, .bool true]) ∧ w7 = w') from by
                  rw [HVV.out]
                  exact read_yes S.p D.pc D.pa D.pw p r w7 I7.out.mm.sto.pg (by rw [I7.out.wf.pc]; omega) (by rw [I7.out.wf.pc]; exact hp16) (by rw [I7.out.wf.pa]; exact acPre_th 16 p hp16) hr32)
                have PK := Lib.hid (show Calls Tryd.prog 20 #[.pointer (some ⟨S.s, 0, none⟩), .int .i64 p] w7 (KeyBelow w7 ⟨3, p, 0, 0, 0⟩) from by
                  have := page_key S D p w7 I7.out.mm.sto (by rw [I7.out.wf.pc]; exact hp16) (by rw [I7.out.wf.pa]; exact acPre_th 16 p hp16)
                  rwa [show D.pa.ve p = 0 by rw [I7.out.wf.pa]; rfl] at this)
                go_wp2_with (fail)
                go_at_call 33
                refine (RD.out).mono ?_
                rintro e w' ⟨rfl, rfl⟩
                go_wp2_with (fail)
                go_at_call 20
                refine (PK.out).mono ?_
                rintro e w8 ⟨rfl, hb8⟩
                have I8 := Lib.hid (show WI w S cb mb kb hb (60 + (i : Int) + 1) D w8 from I7.out.step (I7.out.mm.below hb8) (I7.out.mm.keep_below hb8))
                have LD := Lib.hid (show Calls Tryd.prog 32 #[.pointer (some ⟨mb, 0, none⟩), (⟨3, p, 0, 0, 0⟩ : K).v, .int .u32 (r : Int)] w8 (fun e W' => e = .returned (.tuple #[.int .u32 v, .int .i64 0]) ∧ Mm w S cb mb D 3 (60 + (i : Int) + 1 + 1) (fun x => (x = mb ∨ x = kb) ∨ x = hb) W' ∧ Keep (fun x => (x = mb ∨ x = kb) ∨ x = hb) w8 W') from by
                  have := mem_load ⟨3, p, 0, 0, 0⟩ (r : Int) I8.out.mm (by omega) (by omega) (by omega)
                  rw [wf_key I8.out.wf p hp16 r (by omega)] at this
                  rw [HVV.out]
                  exact this)
                clear hb8 RD PK z0 z1 I7
                go_wp2_with (fail)
                go_at_call 32
                refine (LD.out).mono ?_
                rintro e w9 ⟨rfl, hm9, hk9⟩
                have I9 := Lib.hid ((I8.out.step hm9 hk9).more (show 60 + (i : Int) + 1 + 1 ≤ 60 + ((i + 7 : Nat) : Int) by push_cast; omega))
                have y0 : w9.cell? ⟨hb, x, none⟩ = some (.int .u32 v) := by
                  rw [I9.out.rh.cell x hx5, HVV.out, ← hxp, wordCell_at _ _ _ hr32]
                clear hm9 hk9 LD I8
                go_wp2
                go_roundw
                case rel => exact ⟨i + 7, by omega, by go_num, I9⟩
                case measure => simp [intOf]; omega
              · have hlt : decide ((i : Int) < 512) = false := by simp; omega
                have B9 := Lib.hid I.out.mm.bel
                go_wp2
                go_ret
                exact ⟨rfl, B9.out⟩
end Go.Proofs.YtdlemkmkheokkaaDoor
