/- turnkeylaw11.MemSets answers true for every input: the walk. -/
import Derived.Test.YtdlemkmkheokkaaDoorSb
import Derived.BigQuiet
namespace Go.Proofs.YtdlemkmkheokkaaDoor
open Go.RowKit

/-- n pages are there, each with its number; no node -/
structure Pw (n : Nat) (D : SC) : Prop where
  nc : D.nc = 1
  pc : D.pc = 8
  pa : D.pa = acPre n
  na : D.na = AC.zero
  nk : D.nk = fun _ _ => K.zero
  pw : ∀ p : Nat, p < n → D.pw p 0 = 100 + p
theorem pw_start : Pw 0 (SC.new 1 8) := ⟨rfl, rfl, acPre_zero.symm, rfl, rfl, fun p h => absurd h (Nat.not_lt_zero p)⟩
theorem pw_page {n : Nat} {D : SC} (h : Pw n D) : Pw (n + 1) { D with pa := D.pa.take n, pw := up D.pw n (pageWords 1 fun _ => 100 + (n : Int)) } := by
  refine ⟨h.nc, h.pc, ?_, h.na, h.nk, fun p hp => ?_⟩
  · show D.pa.take n = _
    rw [h.pa]
    exact acPre_take n
  · show up D.pw n (pageWords 1 fun _ => 100 + (n : Int)) p 0 = _
    by_cases e : p = n
    · subst e; rw [up_same]; simp [pageWords]
    · rw [up_other _ _ _ _ e]; exact h.pw p (by omega)
/-- node 0's first four slots hold what hv says -/
structure Ps (hv : Nat → Int) (D : SC) : Prop where
  nd : Nd0 D
  pc : D.pc = 8
  pa : D.pa = acPre 8
  pw : ∀ p : Nat, p < 8 → D.pw p 0 = 100 + p
  ks : ∀ s, s < 4 → (hv s = -1 ∧ D.nk 0 s = K.zero) ∨ ∃ p : Nat, p < 8 ∧ hv s = p ∧ D.nk 0 s = ⟨3, p, 0, 0, 0⟩
theorem ps_start {D : SC} (h : Pw 8 D) : Ps (fun _ => -1) { D with na := D.na.take 0, nk := up D.nk 0 (nodeKeys 0 K.zero) } := by
  refine ⟨⟨?_, ?_, ?_⟩, h.pc, h.pa, h.pw, fun s _ => .inl ⟨rfl, ?_⟩⟩
  · show 0 < D.nc
    rw [h.nc]; omega
  · show (D.na.take 0).th 0 = true
    rw [h.na]; rfl
  · show (D.na.take 0).ve 0 = 0
    rw [h.na]; rfl
  · show up D.nk 0 (nodeKeys 0 K.zero) 0 s = K.zero
    rw [up_same]
    simp [nodeKeys]
theorem ps_set {hv : Nat → Int} {D : SC} (h : Ps hv D) (t p : Nat) (hp : p < 8) : Ps (up hv t (p : Int)) { D with nk := up2 D.nk 0 t ⟨3, p, 0, 0, 0⟩ } := by
  refine ⟨⟨h.nd.nc, h.nd.th, h.nd.ve⟩, h.pc, h.pa, h.pw, fun s hs => ?_⟩
  show (up hv t (p : Int) s = -1 ∧ up2 D.nk 0 t ⟨3, p, 0, 0, 0⟩ 0 s = K.zero) ∨ ∃ q : Nat, q < 8 ∧ up hv t (p : Int) s = q ∧ up2 D.nk 0 t ⟨3, p, 0, 0, 0⟩ 0 s = ⟨3, q, 0, 0, 0⟩
  by_cases e : s = t
  · subst e
    exact .inr ⟨p, hp, up_same _ _ _, up2_same _ _ _ _⟩
  · rw [up_other _ _ _ _ e, up2_other _ _ _ _ _ _ (fun x => e x.2)]
    exact h.ks s hs
/-- a load through an empty slot -/
theorem ps_void {hv : Nat → Int} {D : SC} (h : Ps hv D) (j : Nat) (hj : j < 4) (hn : D.nk 0 j = K.zero) : loadV D (wayF D kn0 (32 * (j : Int))) = 0 ∧ (wayF D kn0 (32 * (j : Int))).fault = 2 := by
  have e : (wayF D kn0 (32 * (j : Int))).fault = 2 := by
    rw [way_slot h.nd j (by omega) (32 * (j : Int)) (by omega), hn, void_walk 3]
  refine ⟨?_, e⟩
  unfold loadV
  rw [if_neg (by rw [e]; decide)]
/-- a load through a slot that has a page -/
theorem ps_page {hv : Nat → Int} {D : SC} (h : Ps hv D) (j p : Nat) (hj : j < 4) (hp : p < 8) (hn : D.nk 0 j = ⟨3, p, 0, 0, 0⟩) : loadV D (wayF D kn0 (32 * (j : Int))) = 100 + p ∧ (wayF D kn0 (32 * (j : Int))).fault = 0 := by
  have e := slot_page h.nd j p (by omega) (32 * (j : Int)) (by omega) hn (by rw [h.pc]; exact hp) (by rw [h.pa]; exact acPre_th 8 p hp) (by rw [h.pa]; rfl)
  rw [e]
  refine ⟨?_, rfl⟩
  unfold loadV
  rw [if_pos rfl]
  show D.pw p ((32 * (j : Int)) % 32).toNat = _
  rw [show ((32 * (j : Int)) % 32).toNat = 0 by omega]
  exact h.pw p hp
/-- at the loops -/
structure MS (w0 : World) (S : SA) (cb mb kb hb : Nat) (n : Int) (hv : Nat → Int) (D : SC) (W : World) : Prop where
  mm : Mm w0 S cb mb D 3 n (fun x => (x = mb ∨ x = kb) ∨ x = hb) W
  ps : Ps hv D
  rk : Row W kb 5 kn0.cell
  rh : Row W hb 4 (fun s => .int .i64 (hv s))
  h0 : w0.heap.size ≤ hb
  hm : mb ≠ hb
  hk : kb ≠ hb
theorem MS.more {w0 : World} {S : SA} {cb mb kb hb : Nat} {n m : Int} {hv : Nat → Int} {D : SC} {W : World} (h : MS w0 S cb mb kb hb n hv D W) (e : n ≤ m) : MS w0 S cb mb kb hb m hv D W := ⟨h.mm.more e, h.ps, h.rk, h.rh, h.h0, h.hm, h.hk⟩
theorem MS.step {w0 : World} {S : SA} {cb mb kb hb : Nat} {n m : Int} {hv : Nat → Int} {D D' : SC} {W W' : World} (h : MS w0 S cb mb kb hb n hv D W) (hm : Mm w0 S cb mb D' 3 m (fun x => (x = mb ∨ x = kb) ∨ x = hb) W') (hk : Keep (fun x => (x = mb ∨ x = kb) ∨ x = hb) W W') (hp : Ps hv D') : MS w0 S cb mb kb hb m hv D' W' :=
  ⟨hm, hp, h.rk.of_block (hk.2 _ (.inl (.inr rfl))), h.rh.of_block (hk.2 _ (.inr rfl)), h.h0, h.hm, h.hk⟩
/-- behind a set: the list is set, too -/
theorem MS.have_ {w0 : World} {S : SA} {cb mb kb hb : Nat} {n m : Int} {hv : Nat → Int} {D : SC} {W W' : World} (h : MS w0 S cb mb kb hb n hv D W) (t p : Nat) (hp : p < 8)
    (hm : Mm w0 S cb mb { D with nk := up2 D.nk 0 t ⟨3, p, 0, 0, 0⟩ } 3 m (fun x => (x = mb ∨ x = kb) ∨ x = hb) W') (hk : Keep (fun x => (x = mb ∨ x = kb) ∨ x = hb) W W') :
    MS w0 S cb mb kb hb m (up hv t (p : Int)) { D with nk := up2 D.nk 0 t ⟨3, p, 0, 0, 0⟩ } (W'.setCell ⟨hb, t, none⟩ (.int .i64 p)) := by
  have o : Only (fun g => g = hb) W' (W'.setCell ⟨hb, t, none⟩ (.int .i64 p)) := (Only.refl (fun g : Nat => g = hb) W').setCell ⟨hb, t, none⟩ _ (.inl rfl)
  refine ⟨hm.boxw o (.inr rfl) h.hm h.h0, ps_set h.ps t p hp, (h.rk.of_block (hk.2 _ (.inl (.inr rfl)))).only o h.hk, ((h.rh.of_block (hk.2 _ (.inr rfl))).set t (.int .i64 p)).congr fun j _ => ?_, h.h0, h.hm, h.hk⟩
  by_cases e : j = t
  · subst e; rw [if_pos rfl, up_same]
  · rw [if_neg e, up_other _ _ _ _ e]
theorem number8 (n : Int) (W : World) : Calls Tryd.prog 26 #[.int .i64 n, .int .i64 8] W (fun e W' => ∃ p : Nat, p < 8 ∧ e = .returned (.int .i64 p) ∧ W = W') := by
  refine (number_any n 8 W (by omega) (by omega)).mono ?_
  rintro e W' ⟨rfl, rfl⟩
  have := numB_range n 8 (by omega)
  exact ⟨(numB n 8).toNat, by omega, by rw [show (((numB n 8).toNat : Nat) : Int) = numB n 8 by omega], rfl⟩
theorem number4 (n : Int) (W : World) : Calls Tryd.prog 26 #[.int .i64 n, .int .i64 4] W (fun e W' => ∃ p : Nat, p < 4 ∧ e = .returned (.int .i64 p) ∧ W = W') := by
  refine (number_any n 4 W (by omega) (by omega)).mono ?_
  rintro e W' ⟨rfl, rfl⟩
  have := numB_range n 4 (by omega)
  exact ⟨(numB n 4).toNat, by omega, by rw [show (((numB n 4).toNat : Nat) : Int) = numB n 4 by omega], rfl⟩

theorem ms_block (a : Addr) (i : Nat) : (a.add i).block = a.block := by
  unfold Addr.add
  split <;> rfl
theorem ms_drew (W : World) : ∀ n, Below W.heap.size W (W.drewN n) := fun _ => ⟨rfl, rfl, rfl, Nat.le_refl _, fun _ _ => rfl⟩
section
variable {w0 : World} {S : SA} {cb mb ob : Nat} {D : SC} {size n : Int} {X : Nat → Prop} {W : World}
/-- a box of the region's own takes what a slot held -/
theorem ms_boxed (M : Mm w0 S cb mb D size n (fun x => X x ∨ x = ob) W) (hx : X mb) (R : Row W ob 5 K.zero.cell) (hne : ∀ x, X x → x ≠ ob) (h0 : w0.heap.size ≤ ob) (q : K) :
    Mm w0 S cb mb D size n X (((((W.setCell ⟨ob, 0, none⟩ (.int .i64 q.kind)).setCell ⟨ob, 1, none⟩ (.int .i64 q.id)).setCell ⟨ob, 2, none⟩ (.int .i64 q.ver)).setCell ⟨ob, 3, none⟩ (.int .i64 q.rights)).setCell ⟨ob, 4, none⟩ (.int .u32 q.data))
      ∧ Keep X W (((((W.setCell ⟨ob, 0, none⟩ (.int .i64 q.kind)).setCell ⟨ob, 1, none⟩ (.int .i64 q.id)).setCell ⟨ob, 2, none⟩ (.int .i64 q.ver)).setCell ⟨ob, 3, none⟩ (.int .i64 q.rights)).setCell ⟨ob, 4, none⟩ (.int .u32 q.data))
      ∧ Row (((((W.setCell ⟨ob, 0, none⟩ (.int .i64 q.kind)).setCell ⟨ob, 1, none⟩ (.int .i64 q.id)).setCell ⟨ob, 2, none⟩ (.int .i64 q.ver)).setCell ⟨ob, 3, none⟩ (.int .i64 q.rights)).setCell ⟨ob, 4, none⟩ (.int .u32 q.data)) ob 5 q.cell := by
  have o := key_only' (X := fun y => y = ob) (b := ob) (Only.refl _ W) (.inl rfl) (.int .i64 q.kind) (.int .i64 q.id) (.int .i64 q.ver) (.int .i64 q.rights) (.int .u32 q.data)
  exact ⟨(M.boxw o (.inr rfl) (hne mb hx) h0).less (fun x h => .inl h) hx, ⟨o.size, fun x h => o.block x (M.hX x (.inl h)).1 (hne x h)⟩, box_set R⟩
end

set_option maxRecDepth 100000 in
set_option maxHeartbeats 4000000 in
theorem memSets_walk (A : Option Addr) (l : List Int) (cap : Nat) (swap : Bool) (w : World) (hA : l ≠ [] → ∃ a : Addr, A = some a ∧ a.block < w.heap.size ∧ ∀ i z, l[i]? = some z → w.cell? (a.add i) = some (.int .i64 z)) (hcap : l.length ≤ cap) :
    Calls Tryd.prog 7 #[.slice A l.length cap, .bool swap] w (TrueBelow w) := by
  have F9 := Lib.hid (fun W => first11 W)
  have MN := Lib.hid (show ∀ W, Calls Tryd.prog 28 #[.int .i64 1, .int .i64 8, .int .i64 3] W (NewMe W 1 8 3) from fun W => mem_new 1 8 3 W (by omega) (by omega) (by omega) (by omega) (by omega) (by omega))
  have HA := Lib.hid hA
  clear hA
  by_cases hlen : 30 < l.length
  · have e1 : decide ((30 : Int) < (l.length : Int)) = true := by simp; omega
    clear hlen
    go_enter Tryd.func7, Tryd.ntmps7
    go_wp2_with (fail)
    go_at_call 27
    refine (F9.out _).mono ?_
    rintro e w1 ⟨rfl, hb1⟩
    have HB1 := Lib.hid hb1
    clear hb1
    go_wp2
    go_ret
    exact ⟨rfl, HB1.out⟩
  · have e1 : decide ((30 : Int) < (l.length : Int)) = false := by simp; omega
    have hl30 : l.length ≤ 30 := by omega
    clear hlen
    go_enter Tryd.func7, Tryd.ntmps7
    go_wp2_with (fail)
    go_at_call 27
    refine (F9.out _).mono ?_
    rintro e w1 ⟨rfl, hb1⟩
    have HB1 := Lib.hid hb1
    clear hb1
    go_wp2_with (fail)
    go_at_call 28
    refine (MN.out _).mono ?_
    rintro e w2 ⟨S, cb, mb, rfl, hmb, hm⟩
    have M2 := Lib.hid (hm.rebase HB1.out)
    have HMB := Lib.hid (Nat.le_trans HB1.out.size hmb)
    clear hm hmb HB1 MN
    go_wp2_with (fail)
    go_loopw [8] (fun t wr => ∃ (i : Nat) (D : SC), i ≤ 8 ∧ t = .int .i64 i ∧ Hid (Pw i D ∧ Me0 w S cb mb D 3 0 (fun x => x = mb) wr)) (fun t _ => 8 - (intOf t).toNat)
    case atStart => exact ⟨0, SC.new 1 8, by omega, rfl, pw_start, M2.out⟩
    case round =>
      clear M2
      obtain ⟨i, D, hi, rfl, I⟩ := hrel
      by_cases hil : i < 8
      · have hlt : (i : Int) < 8 := by omega
        have q0 := I.out.2.mm.q0
        have q1 := I.out.2.mm.sto.p1
        have hw1 : IntKind.i64.wrap (100 + (i : Int)) = 100 + i := IntWalk.i64_in _ (by omega)
        have M10b := Lib.hid (I.out.2.below ((Below.refl _ wr).alloc (Nat.le_refl _) (.cells #[.int .u32 (100 + (i : Int))] 34)))
        have RO := Lib.hid (Row.one wr (.int .u32 (100 + (i : Int))) 34)
        have lp := I.out.2.mm.sto.lt S.p.l (.inr (.inr (NA.hl _)))
        have FL := Lib.hid I.out.1
        clear I
        go_wp2_with (fail)
        go_at_call 19
        refine (pmake S.p 8 D.pa D.pw i 1 1 ⟨wr.heap.size, 0, none⟩ (fun _ => 100 + (i : Int)) _ (FL.out.pc ▸ M10b.out.mm.sto.pg) (by omega) hil (fun j h => by rw [FL.out.pa]; exact acPre_th i j h) (by rw [FL.out.pa]; exact acPre_not i i (Nat.le_refl _)) (by rw [FL.out.pa]; rfl) (by omega) (Nat.ne_of_gt lp) RO.out.lt (row_cell1 RO.out)).mono ?_
        rintro e w3 ⟨rfl, hpg, ho⟩
        have J : Hid (∃ D, Pw (i + 1) D ∧ Me0 w S cb mb D 3 0 (fun x => x = mb) w3) := ⟨_, pw_page FL.out, (M10b.out.page (by rw [FL.out.pc]; exact hpg) ho).1⟩
        clear hpg ho q0 q1 M10b RO lp FL
        go_wp2
        go_roundw
        case rel => obtain ⟨D', h1, h2⟩ := J.out; exact ⟨i + 1, D', by omega, by go_num, h1, h2⟩
        case measure => simp [intOf]; omega
      · obtain rfl : i = 8 := by omega
        have q0 := I.out.2.mm.q0
        have q1 := I.out.2.mm.sto.p0
        have M2 := Lib.hid I.out.2
        have FL := Lib.hid I.out.1
        have hge : decide ((8 : Int) < 8) = false := by decide
        clear I
        go_wp2_with (fail)
        go_at_call 21
        refine (nmake0 S.n 1 D.na D.nk 0 _ (FL.out.nc ▸ M2.out.mm.sto.no) (by omega) (by omega) (fun j h => absurd h (Nat.not_lt_zero j)) (by rw [FL.out.na]; rfl) (by rw [FL.out.na]; rfl)).mono ?_
        rintro e w3 ⟨rfl, hno, ho⟩
        obtain ⟨D3, hD3⟩ : ∃ D3 : SC, D3 = { D with na := D.na.take 0, nk := up D.nk 0 (nodeKeys 0 K.zero) } := ⟨_, rfl⟩
        have P3 : Hid (Ps (fun _ => -1) D3) := by rw [hD3]; exact ps_start FL.out
        have M3 : Hid (Me0 w S cb mb D3 3 0 (fun x => x = mb) w3) := by rw [hD3]; exact (M2.out.make (by rw [FL.out.nc]; exact hno) ho).1
        clear hno ho q0 q1 M2 FL hD3
        have q0 := M3.out.mm.q0
        have NK := Lib.hid (show Calls Tryd.prog 22 #[.pointer (some ⟨S.s, 0, none⟩), .int .i64 0, .int .i64 1] w3 (KeyBelow w3 ⟨2, 0, 0, 0, 1⟩) from by
          have := node_key S D3 0 1 w3 M3.out.mm.sto P3.out.nd.nc P3.out.nd.th (by omega) (by omega)
          rwa [P3.out.nd.ve] at this)
        go_wp2_with (fail)
        go_at_call 22
        refine (NK.out).mono ?_
        rintro e w4 ⟨rfl, hb4⟩
        have M5 := Lib.hid (((M3.out.below hb4).new (.cells #[.int .i64 2, .int .i64 0, .int .i64 0, .int .i64 0, .int .u32 1] 36)).new (.cells #[.int .i64 (-1), .int .i64 (-1), .int .i64 (-1), .int .i64 (-1)] 3))
        have RK := Lib.hid ((kn0.box w4 36).alloc (.cells #[.int .i64 (-1), .int .i64 (-1), .int .i64 (-1), .int .i64 (-1)] 3))
        have RH := Lib.hid (Row.new (w4.alloc (.cells #[.int .i64 2, .int .i64 0, .int .i64 0, .int .i64 0, .int .u32 1] 36)) #[.int .i64 (-1), .int .i64 (-1), .int .i64 (-1), .int .i64 (-1)] 3 4 (fun _ => .int .i64 (-1)) rfl (fun i hi => by rcases (by omega : i = 0 ∨ i = 1 ∨ i = 2 ∨ i = 3) with rfl | rfl | rfl | rfl <;> rfl))
        have lw4 := (M3.out.below hb4).mm.bel.size
        have lm4 := ((M3.out.below hb4).mm.hX mb rfl).1
        clear hb4 q0 NK M3
        go_wp2_with (fail)
        obtain ⟨w5, hw5⟩ : ∃ w5, w5 = (w4.alloc (.cells #[.int .i64 2, .int .i64 0, .int .i64 0, .int .i64 0, .int .u32 1] 36)).alloc (.cells #[.int .i64 (-1), .int .i64 (-1), .int .i64 (-1), .int .i64 (-1)] 3) := ⟨_, rfl⟩
        have I0 : Hid (MS w S cb mb w4.heap.size (w4.heap.size + 1) 0 (fun _ => -1) D3 w5) := by
          rw [hw5]
          have m := M5.out.mm
          have r := RH.out
          rw [World.size_alloc] at m r
          exact ⟨m, P3.out, RK.out, r, by omega, by omega, by omega⟩
        clear M5 RK RH P3
        rw [← hw5]
        clear hw5
        obtain ⟨kb, hkb⟩ : ∃ kb, kb = w4.heap.size := ⟨_, rfl⟩
        obtain ⟨hb, hhb⟩ : ∃ hb, hb = w4.heap.size + 1 := ⟨_, rfl⟩
        rw [← hhb, ← hkb] at I0 ⊢
        clear hkb hhb lw4 lm4
        go_loopw [11] (fun t wr => ∃ (i : Nat) (hv : Nat → Int) (D : SC), i ≤ l.length ∧ t = .int .i64 i ∧ Hid (MS w S cb mb kb hb (4 * (i : Int)) hv D wr)) (fun t _ => l.length - (intOf t).toNat)
        case atStart => exact ⟨0, fun _ => -1, D3, by omega, rfl, I0⟩
        case round =>
          clear I0
          obtain ⟨i, hv, D, hi, rfl, I⟩ := hrel
          by_cases hil : i < l.length
          · obtain ⟨z, hz⟩ : ∃ z, l[i]? = some z := ⟨l[i], List.getElem?_eq_getElem hil⟩
            obtain ⟨a, rfl, hab, hac⟩ := HA.out (by rintro rfl; simp at hil)
            have d0 : wr.cell? (a.add i) = some (.int .i64 z) := (World.cell?_of_block (by rw [ms_block]; exact I.out.mm.bel.block _ hab)).trans (hac i z hz)
            have hlt : (i : Int) < (l.length : Int) := by omega
            clear hac hz
            go_wp2_with (fail)
            go_at_call 26
            refine (number4 _ _).mono ?_
            rintro e w' ⟨t, ht4, rfl, rfl⟩
            go_wp2_with (fail)
            go_at_call 26
            refine (number8 _ _).mono ?_
            rintro e w' ⟨p, hp8, rfl, rfl⟩
            go_upto_if 87 with (fail)
            go_cut [14, 15] from 70 to 186 (fun _ _ wx => Hid (Mm w S cb mb { D with nk := up2 D.nk 0 t ⟨3, p, 0, 0, 0⟩ } 3 (4 * (i : Int)) (fun x => (x = mb ∨ x = kb) ∨ x = hb) wx ∧ Keep (fun x => (x = mb ∨ x = kb) ∨ x = hb) wr wx))
            case first =>
              have PK := Lib.hid (fun V (hV : Sto V S D) => show Calls Tryd.prog 20 #[.pointer (some ⟨S.s, 0, none⟩), .int .i64 p] V (KeyBelow V ⟨3, p, 0, 0, 0⟩) from by
                have := page_key S D p V hV (by rw [I.out.ps.pc]; exact hp8) (by rw [I.out.ps.pa]; exact acPre_th 8 p hp8)
                rwa [show D.pa.ve p = 0 by rw [I.out.ps.pa]; rfl] at this)
              have z0 : wr.cell? ⟨mb, 0, none⟩ = some (.pointer (some ⟨S.s, 0, none⟩)) := I.out.mm.q0
              cases swap with
              | true =>
                obtain ⟨q, hq⟩ : ∃ q, q = D.nk 0 t := ⟨_, rfl⟩
                have HQ := Lib.hid hq
                obtain ⟨qk, qi, qv, qr, qd⟩ := q
                have SW := Lib.hid (fun (X : Nat → Prop) V (hV : Mm w S cb mb D 3 (4 * (i : Int)) X V) => show Calls Tryd.prog 34 #[.pointer (some ⟨mb, 0, none⟩), .agg #[.int .i64 2, .int .i64 0, .int .i64 0, .int .i64 0, .int .u32 1], .int .i64 t, .agg #[.int .i64 3, .int .i64 p, .int .i64 0, .int .i64 0, .int .u32 0]] V (fun e W' => e = .returned (.tuple #[.agg #[.int .i64 qk, .int .i64 qi, .int .i64 qv, .int .i64 qr, .int .u32 qd], .nilIface]) ∧ Mm w S cb mb { D with nk := up2 D.nk 0 t ⟨3, p, 0, 0, 0⟩ } 3 (4 * (i : Int)) X W' ∧ Keep X V W') from by
                  have := mem_swap t ⟨3, p, 0, 0, 0⟩ hV I.out.ps.nd (by omega) (ok_page p (by omega) (by omega))
                  rw [← HQ.out] at this
                  exact this)
                clear hq
                go_wp2_with (fail)
                go_cut [14, 15] from 70 to 186 (fun s14 s15 wx => ∃ ob : Nat, s14 = .pointer (some ⟨ob, 0, none⟩) ∧ s15 = .nilIface ∧ Hid (Mm w S cb mb { D with nk := up2 D.nk 0 t ⟨3, p, 0, 0, 0⟩ } 3 (4 * (i : Int)) (fun x => (x = mb ∨ x = kb) ∨ x = hb) wx ∧ Keep (fun x => (x = mb ∨ x = kb) ∨ x = hb) wr wx ∧ Row wx ob 5 (⟨qk, qi, qv, qr, qd⟩ : K).cell))
                case first =>
                  have A1 := Lib.hid (I.out.mm.below ((Below.refl _ wr).drew))
                  have A2 := Lib.hid (show Mm w S cb mb D 3 (4 * (i : Int)) (fun x => ((x = mb ∨ x = kb) ∨ x = hb) ∨ x = wr.heap.size) (wr.alloc (.cells #[.int .i64 0, .int .i64 0, .int .i64 0, .int .i64 0, .int .u32 0] 36)).drew from (I.out.mm.new (.cells #[.int .i64 0, .int .i64 0, .int .i64 0, .int .i64 0, .int .u32 0] 36)).below ((Below.refl _ _).drew))
                  have ZB : Hid (Row (wr.alloc (.cells #[.int .i64 0, .int .i64 0, .int .i64 0, .int .i64 0, .int .u32 0] 36)).drew wr.heap.size 5 K.zero.cell) := (K.zero.box wr 36).of_block rfl
                  have RK1 := Lib.hid (show Row wr.drew kb 5 kn0.cell from I.out.rk.of_block rfl)
                  have RK2 := Lib.hid (show Row (wr.alloc (.cells #[.int .i64 0, .int .i64 0, .int .i64 0, .int .i64 0, .int .u32 0] 36)).drew kb 5 kn0.cell from (I.out.rk.alloc (.cells #[.int .i64 0, .int .i64 0, .int .i64 0, .int .i64 0, .int .u32 0] 36)).of_block rfl)
                  have KB2 := Lib.hid (show Keep (fun x => (x = mb ∨ x = kb) ∨ x = hb) wr (wr.alloc (.cells #[.int .i64 0, .int .i64 0, .int .i64 0, .int .i64 0, .int .u32 0] 36)).drew from I.out.mm.keep_below (((Below.refl _ wr).alloc (Nat.le_refl _) (.cells #[.int .i64 0, .int .i64 0, .int .i64 0, .int .i64 0, .int .u32 0] 36)).drew))
                  have c0 : wr.cell? ⟨kb, 0, none⟩ = some (.int .i64 2) := I.out.rk.cell 0 (by omega)
                  have c1 : wr.cell? ⟨kb, 1, none⟩ = some (.int .i64 0) := I.out.rk.cell 1 (by omega)
                  have c2 : wr.cell? ⟨kb, 2, none⟩ = some (.int .i64 0) := I.out.rk.cell 2 (by omega)
                  have c3 : wr.cell? ⟨kb, 3, none⟩ = some (.int .i64 0) := I.out.rk.cell 3 (by omega)
                  have c4 : wr.cell? ⟨kb, 4, none⟩ = some (.int .u32 1) := I.out.rk.cell 4 (by omega)
                  have g0 : wr.drew.cell? ⟨mb, 0, none⟩ = some (.pointer (some ⟨S.s, 0, none⟩)) := z0
                  have d0 : wr.drew.cell? ⟨kb, 0, none⟩ = some (.int .i64 2) := c0
                  have d1 : wr.drew.cell? ⟨kb, 1, none⟩ = some (.int .i64 0) := c1
                  have d2 : wr.drew.cell? ⟨kb, 2, none⟩ = some (.int .i64 0) := c2
                  have d3 : wr.drew.cell? ⟨kb, 3, none⟩ = some (.int .i64 0) := c3
                  have d4 : wr.drew.cell? ⟨kb, 4, none⟩ = some (.int .u32 1) := c4
                  have lk := I.out.rk.lt
                  have lm := (I.out.mm.hX mb (.inl (.inl rfl))).1
                  have nk1 : ¬ kb = wr.heap.size := by omega
                  have nk2 : ¬ wr.heap.size = kb := by omega
                  have nm1 : ¬ mb = wr.heap.size := by omega
                  have nm2 : ¬ wr.heap.size = mb := by omega
                  have NX : Hid (∀ x, ((x = mb ∨ x = kb) ∨ x = hb) → x < wr.heap.size) := fun x hx => (I.out.mm.hX x hx).1
                  have HB0 := Lib.hid I.out.mm.bel.size
                  clear I HQ
                  go_region_held3 (fun V => V.cell? ⟨mb, 0, none⟩ = some (.pointer (some ⟨S.s, 0, none⟩)) ∧ V.cell? ⟨kb, 0, none⟩ = some (.int .i64 2) ∧ V.cell? ⟨kb, 1, none⟩ = some (.int .i64 0) ∧ V.cell? ⟨kb, 2, none⟩ = some (.int .i64 0) ∧ V.cell? ⟨kb, 3, none⟩ = some (.int .i64 0) ∧ V.cell? ⟨kb, 4, none⟩ = some (.int .u32 1))
                    (first | with_reducible exact ⟨g0, d0, d1, d2, d3, d4⟩ | with_reducible exact ⟨z0, c0, c1, c2, c3, c4⟩ | go_keep)
                    ((first
                      | (go_at_call 20; refine (PK.out _ (by first | exact A1.out.sto | exact A2.out.sto)).mono ?_; rintro e w5 ⟨rfl, hb5⟩
                         (first
                          | (have M5 := Lib.hid (A2.out.below hb5); have Z5 := Lib.hid (ZB.out.below hb5); have R5 := Lib.hid (RK2.out.below hb5); have K5 := Lib.hid (KB2.out.trans (A2.out.keep_below hb5 |>.less fun x hx => .inl hx)); have HS5 := Lib.hid (show wr.heap.size ≤ w5.heap.size from Nat.le_trans (Nat.le_succ _) (by simpa using hb5.size)))
                          | (have M5 := Lib.hid (A1.out.below hb5); have R5 := Lib.hid (RK1.out.below hb5); have K5 := Lib.hid (show Keep (fun x => (x = mb ∨ x = kb) ∨ x = hb) wr w5 from A1.out.keep_below hb5); have HS5 := Lib.hid (show wr.heap.size ≤ w5.heap.size from hb5.size); have M5n := Lib.hid (M5.out.new (.cells #[.int .i64 0, .int .i64 0, .int .i64 0, .int .i64 0, .int .u32 0] 36)); have K5n := Lib.hid (K5.out.trans (M5.out.keep_below ((Below.refl _ w5).alloc (Nat.le_refl _) (.cells #[.int .i64 0, .int .i64 0, .int .i64 0, .int .i64 0, .int .u32 0] 36))))))
                         have z0 : w5.cell? ⟨mb, 0, none⟩ = some (.pointer (some ⟨S.s, 0, none⟩)) := M5.out.q0
                         have c0 : w5.cell? ⟨kb, 0, none⟩ = some (.int .i64 2) := R5.out.cell 0 (by omega)
                         have c1 : w5.cell? ⟨kb, 1, none⟩ = some (.int .i64 0) := R5.out.cell 1 (by omega)
                         have c2 : w5.cell? ⟨kb, 2, none⟩ = some (.int .i64 0) := R5.out.cell 2 (by omega)
                         have c3 : w5.cell? ⟨kb, 3, none⟩ = some (.int .i64 0) := R5.out.cell 3 (by omega)
                         have c4 : w5.cell? ⟨kb, 4, none⟩ = some (.int .u32 1) := R5.out.cell 4 (by omega)
                         have lk5 := R5.out.lt
                         have nk5 : ¬ kb = w5.heap.size := by omega
                         have nk5' : ¬ w5.heap.size = kb := by omega
                         have lm5 : mb < w5.heap.size := Nat.lt_of_lt_of_le lm HS5.out
                         have nm5 : ¬ mb = w5.heap.size := by omega
                         have nm5' : ¬ w5.heap.size = mb := by omega
                         clear hb5)
                      | (go_at_call 34; refine (SW.out _ _ (by first | exact M5.out | exact M5n.out)).mono ?_; rintro e w6 ⟨rfl, hm6, hk6⟩
                         (first
                          | (have K6 : Hid (Keep (fun x => (x = mb ∨ x = kb) ∨ x = hb) wr w6) := K5.out.trans hk6; have M6 : Hid (Mm w S cb mb { D with nk := up2 D.nk 0 t ⟨3, p, 0, 0, 0⟩ } 3 (4 * (i : Int)) (fun x => (x = mb ∨ x = kb) ∨ x = hb) w6) := hm6; have R6 := Lib.hid (R5.out.of_block (w' := w6) (hk6.2 kb (.inl (.inr rfl)))))
                          | (have K6 : Hid (Keep (fun x => (x = mb ∨ x = kb) ∨ x = hb) wr w6) := K5n.out.trans (hk6.less fun x hx => .inl hx); have N6 : Hid (Mm w S cb mb { D with nk := up2 D.nk 0 t ⟨3, p, 0, 0, 0⟩ } 3 (4 * (i : Int)) (fun x => ((x = mb ∨ x = kb) ∨ x = hb) ∨ x = w5.heap.size) w6) := hm6; have M6 := Lib.hid (N6.out.less (Y := fun x => (x = mb ∨ x = kb) ∨ x = hb) (fun x hx => .inl hx) (.inl (.inl rfl))); have Z6 := Lib.hid ((K.zero.box w5 36).of_block (w' := w6) (hk6.2 w5.heap.size (.inr rfl))); have R6 := Lib.hid ((R5.out.alloc (.cells #[.int .i64 0, .int .i64 0, .int .i64 0, .int .i64 0, .int .u32 0] 36)).of_block (w' := w6) (hk6.2 kb (.inl (.inl (.inr rfl))))); have HO := Lib.hid (show ∀ x, ((x = mb ∨ x = kb) ∨ x = hb) → x ≠ w5.heap.size from fun x hx => by have := NX.out x hx; have := HS5.out; omega); have HO2 := Lib.hid (Nat.le_trans HB0.out HS5.out); obtain ⟨y0, y1, y2, y3, y4⟩ := K.facts Z6.out; have f0 := Z6.out.frozen 0; have f1 := Z6.out.frozen 1; have f2 := Z6.out.frozen 2; have f3 := Z6.out.frozen 3; have f4 := Z6.out.frozen 4)
                          | (have K6 : Hid (Keep (fun x => (x = mb ∨ x = kb) ∨ x = hb) wr w6) := K5.out.trans (hk6.less fun x hx => .inl hx); have N6 : Hid (Mm w S cb mb { D with nk := up2 D.nk 0 t ⟨3, p, 0, 0, 0⟩ } 3 (4 * (i : Int)) (fun x => ((x = mb ∨ x = kb) ∨ x = hb) ∨ x = wr.heap.size) w6) := hm6; have M6 := Lib.hid (N6.out.less (Y := fun x => (x = mb ∨ x = kb) ∨ x = hb) (fun x hx => .inl hx) (.inl (.inl rfl))); have Z6 := Lib.hid (Z5.out.of_block (w' := w6) (hk6.2 wr.heap.size (.inr rfl))); have R6 := Lib.hid (R5.out.of_block (w' := w6) (hk6.2 kb (.inl (.inl (.inr rfl))))); have HO := Lib.hid (show ∀ x, ((x = mb ∨ x = kb) ∨ x = hb) → x ≠ wr.heap.size from fun x hx => by have := NX.out x hx; omega); have HO2 := Lib.hid HB0.out; obtain ⟨y0, y1, y2, y3, y4⟩ := K.facts Z6.out; have f0 := Z6.out.frozen 0; have f1 := Z6.out.frozen 1; have f2 := Z6.out.frozen 2; have f3 := Z6.out.frozen 3; have f4 := Z6.out.frozen 4))
                         have z0 : w6.cell? ⟨mb, 0, none⟩ = some (.pointer (some ⟨S.s, 0, none⟩)) := M6.out.q0
                         have c0 : w6.cell? ⟨kb, 0, none⟩ = some (.int .i64 2) := R6.out.cell 0 (by omega)
                         have c1 : w6.cell? ⟨kb, 1, none⟩ = some (.int .i64 0) := R6.out.cell 1 (by omega)
                         have c2 : w6.cell? ⟨kb, 2, none⟩ = some (.int .i64 0) := R6.out.cell 2 (by omega)
                         have c3 : w6.cell? ⟨kb, 3, none⟩ = some (.int .i64 0) := R6.out.cell 3 (by omega)
                         have c4 : w6.cell? ⟨kb, 4, none⟩ = some (.int .u32 1) := R6.out.cell 4 (by omega)
                         have lk6 := R6.out.lt
                         have lm6 : mb < w6.heap.size := Nat.lt_of_lt_of_le lm K6.out.1
                         have nk6 : ¬ kb = w6.heap.size := by omega
                         have nk6' : ¬ w6.heap.size = kb := by omega
                         have nm6 : ¬ mb = w6.heap.size := by omega
                         have nm6' : ¬ w6.heap.size = mb := by omega
                         clear hm6 hk6)))
                  all_goals (
                    go_wp2_with (fail)
                    go_meet
                    first
                      | exact ⟨_, rfl, rfl, (ms_boxed N6.out (.inl (.inl rfl)) Z6.out HO.out HO2.out ⟨qk, qi, qv, qr, qd⟩).1, K6.out.trans (ms_boxed N6.out (.inl (.inl rfl)) Z6.out HO.out HO2.out ⟨qk, qi, qv, qr, qd⟩).2.1, (ms_boxed N6.out (.inl (.inl rfl)) Z6.out HO.out HO2.out ⟨qk, qi, qv, qr, qd⟩).2.2⟩
                      | exact ⟨w6.heap.size, rfl, rfl, M6.out.below ((Below.refl _ w6).alloc (Nat.le_refl _) (.cells #[.int .i64 qk, .int .i64 qi, .int .i64 qv, .int .i64 qr, .int .u32 qd] 36)), K6.out.trans (M6.out.keep_below ((Below.refl _ w6).alloc (Nat.le_refl _) (.cells #[.int .i64 qk, .int .i64 qi, .int .i64 qv, .int .i64 qr, .int .u32 qd] 36))), K.box ⟨qk, qi, qv, qr, qd⟩ w6 36⟩)
                case rest =>
                  obtain ⟨ob, rfl, rfl, hh⟩ := hcut
                  have HC := Lib.hid hh.out
                  clear hh
                  have rhc := I.out.rh.of_block (w' := wc) (HC.out.2.1.2 _ (.inr rfl))
                  have ht0 : (0 : Int) ≤ (t : Int) := by omega
                  have ht4' : (t : Int) < 4 := by omega
                  have HR := Lib.hid (And.intro HC.out.1 HC.out.2.1)
                  rcases I.out.ps.ks t ht4 with ⟨e1, e2⟩ | ⟨p', hp', e1, e2⟩
                  · have hq := HQ.out.trans e2
                    simp only [K.zero, K.mk.injEq] at hq
                    obtain ⟨rfl, rfl, rfl, rfl, rfl⟩ := hq
                    have y0 : wc.cell? ⟨hb, t, none⟩ = some (.int .i64 (-1)) := by
                      have := rhc.cell t ht4
                      rwa [e1] at this
                    have o0 : wc.cell? ⟨ob, 0, none⟩ = some (.int .i64 0) := HC.out.2.2.cell 0 (by omega)
                    have o1 : wc.cell? ⟨ob, 1, none⟩ = some (.int .i64 0) := HC.out.2.2.cell 1 (by omega)
                    clear rhc HC HQ SW PK z0 I e1 e2
                    go_wp2_with (fail)
                    go_quiet (fail)
                    go_wp2_with (fail)
                    go_meet
                    exact ⟨HR.out.1.below (ms_drew wc _), HR.out.2.trans (HR.out.1.keep_below (ms_drew wc _))⟩
                  · have hq := HQ.out.trans e2
                    simp only [K.mk.injEq] at hq
                    obtain ⟨rfl, rfl, rfl, rfl, rfl⟩ := hq
                    have y0 : wc.cell? ⟨hb, t, none⟩ = some (.int .i64 (p' : Int)) := by
                      have := rhc.cell t ht4
                      rwa [e1] at this
                    have o0 : wc.cell? ⟨ob, 0, none⟩ = some (.int .i64 3) := HC.out.2.2.cell 0 (by omega)
                    have o1 : wc.cell? ⟨ob, 1, none⟩ = some (.int .i64 (p' : Int)) := HC.out.2.2.cell 1 (by omega)
                    have hp0 : decide ((0 : Int) ≤ (p' : Int)) = true := by simp
                    clear rhc HC HQ SW PK z0 I e1 e2
                    go_wp2_with (fail)
                    go_quiet (fail)
                    go_wp2_with (fail)
                    go_meet
                    exact ⟨HR.out.1.below (ms_drew wc _), HR.out.2.trans (HR.out.1.keep_below (ms_drew wc _))⟩
              | false =>
                go_wp2_with (fail)
                go_at_call 20
                refine (PK.out _ I.out.mm.sto).mono ?_
                rintro e w6 ⟨rfl, hb6⟩
                have M6 := Lib.hid (I.out.mm.below hb6)
                have K6 := Lib.hid (I.out.mm.keep_below hb6)
                have ST := Lib.hid (show Calls Tryd.prog 35 #[.pointer (some ⟨mb, 0, none⟩), .int .i64 0, .int .i64 t, (⟨3, p, 0, 0, 0⟩ : K).v] w6 (fun e W' => e = .returned .nilIface ∧ Mm w S cb mb { D with nk := up2 D.nk 0 t ⟨3, p, 0, 0, 0⟩ } 3 (4 * (i : Int)) (fun x => (x = mb ∨ x = kb) ∨ x = hb) W' ∧ Keep (fun x => (x = mb ∨ x = kb) ∨ x = hb) w6 W') from mem_set 0 t ⟨3, p, 0, 0, 0⟩ M6.out I.out.ps.nd.nc I.out.ps.nd.th (by omega) (ok_page p (by omega) (by omega)))
                clear hb6 z0 PK
                go_wp2_with (fail)
                go_at_call 35
                refine (ST.out).mono ?_
                rintro e w7 ⟨rfl, hm7, hk7⟩
                have H7 := Lib.hid (And.intro hm7 (K6.out.trans hk7))
                clear hm7 hk7 ST K6 M6
                go_wp2_with (fail)
                go_meet
                exact H7
            case rest =>
              have HC := Lib.hid hcut.out
              clear hcut
              obtain ⟨hv2, hhv⟩ : ∃ hv2, hv2 = up hv t (p : Int) := ⟨_, rfl⟩
              obtain ⟨D2, hD2⟩ : ∃ D2 : SC, D2 = { D with nk := up2 D.nk 0 t ⟨3, p, 0, 0, 0⟩ } := ⟨_, rfl⟩
              have I8 : Hid (MS w S cb mb kb hb (4 * (i : Int)) hv2 D2 (wc.setCell ⟨hb, t, none⟩ (.int .i64 p))) := by
                rw [hhv, hD2]
                exact I.out.have_ t p hp8 HC.out.1 HC.out.2
              have rh := I.out.rh.of_block (HC.out.2.2 _ (.inr rfl))
              have y0 : wc.cell? ⟨hb, t, none⟩ = some (.int .i64 (hv t)) := rh.cell t ht4
              have y1 := rh.frozen t
              have ht0 : (0 : Int) ≤ (t : Int) := by omega
              have ht4' : (t : Int) < 4 := by omega
              clear rh HC I hhv hD2
              go_wp2_with (fail)
              clear y0 y1
              go_loopw [16] (fun t wr => ∃ j : Nat, j ≤ 4 ∧ t = .int .i64 j ∧ Hid (MS w S cb mb kb hb (4 * (i : Int) + (j : Int)) hv2 D2 wr)) (fun t _ => 4 - (intOf t).toNat)
              case atStart => exact ⟨0, by omega, rfl, by simpa using I8⟩
              case round =>
                clear I8
                obtain ⟨j, hj, rfl, J⟩ := hrel
                by_cases hjl : j < 4
                · have hlt2 : (j : Int) < 4 := by omega
                  have hj0 : (0 : Int) ≤ (j : Int) := by omega
                  have hw1 : IntKind.i64.wrap (32 * (j : Int)) = 32 * j := IntWalk.i64_in _ (by omega)
                  have c0 : wr.cell? ⟨kb, 0, none⟩ = some (.int .i64 2) := J.out.rk.cell 0 (by omega)
                  have c1 : wr.cell? ⟨kb, 1, none⟩ = some (.int .i64 0) := J.out.rk.cell 1 (by omega)
                  have c2 : wr.cell? ⟨kb, 2, none⟩ = some (.int .i64 0) := J.out.rk.cell 2 (by omega)
                  have c3 : wr.cell? ⟨kb, 3, none⟩ = some (.int .i64 0) := J.out.rk.cell 3 (by omega)
                  have c4 : wr.cell? ⟨kb, 4, none⟩ = some (.int .u32 1) := J.out.rk.cell 4 (by omega)
                  have LD := mem_load kn0 (32 * (j : Int)) J.out.mm (by omega) (by omega) (by omega)
                  unfold LoadM at LD
                  rcases J.out.ps.ks j hjl with ⟨e1, e2⟩ | ⟨q, hq8, e1, e2⟩
                  · obtain ⟨l1, l2⟩ := ps_void J.out.ps j hjl e2
                    rw [l1, l2] at LD
                    have HLD := Lib.hid LD
                    have HE := Lib.hid e1
                    clear LD l1 l2 e1 e2
                    go_wp2_with (fail)
                    go_at_call 32
                    refine (HLD.out).mono ?_
                    rintro e w7 ⟨rfl, hm7, hk7⟩
                    have J7 := Lib.hid (J.out.step hm7 hk7 J.out.ps)
                    have y0 : w7.cell? ⟨hb, j, none⟩ = some (.int .i64 (-1)) := by
                      have := J7.out.rh.cell j hjl
                      rwa [HE.out] at this
                    have J8 : Hid (MS w S cb mb kb hb (4 * (i : Int) + ((j + 1 : Nat) : Int)) hv2 D2 w7) := by
                      rw [show 4 * (i : Int) + ((j + 1 : Nat) : Int) = 4 * (i : Int) + (j : Int) + 1 by omega]
                      exact J7
                    clear hm7 hk7 HLD c0 c1 c2 c3 c4 J J7 hw1 HE
                    go_wp2
                    go_roundw
                    case rel => exact ⟨j + 1, by omega, by go_num, J8⟩
                    case measure => simp [intOf]; omega
                  · obtain ⟨l1, l2⟩ := ps_page J.out.ps j q hjl hq8 e2
                    rw [l1, l2] at LD
                    have HLD := Lib.hid LD
                    have HE := Lib.hid e1
                    have hw2 : IntKind.i64.wrap (100 + (q : Int)) = 100 + q := IntWalk.i64_in _ (by omega)
                    have hq0 : (0 : Int) ≤ (q : Int) := by omega
                    have hq1 : decide ((q : Int) < 0) = false := by simp
                    clear LD l1 l2 e1 e2
                    go_wp2_with (fail)
                    go_at_call 32
                    refine (HLD.out).mono ?_
                    rintro e w7 ⟨rfl, hm7, hk7⟩
                    have J7 := Lib.hid (J.out.step hm7 hk7 J.out.ps)
                    have y0 : w7.cell? ⟨hb, j, none⟩ = some (.int .i64 (q : Int)) := by
                      have := J7.out.rh.cell j hjl
                      rwa [HE.out] at this
                    have J8 : Hid (MS w S cb mb kb hb (4 * (i : Int) + ((j + 1 : Nat) : Int)) hv2 D2 w7) := by
                      rw [show 4 * (i : Int) + ((j + 1 : Nat) : Int) = 4 * (i : Int) + (j : Int) + 1 by omega]
                      exact J7
                    clear hm7 hk7 HLD c0 c1 c2 c3 c4 J J7 hw1 HE
                    go_wp2
                    go_roundw
                    case rel => exact ⟨j + 1, by omega, by go_num, J8⟩
                    case measure => simp [intOf]; omega
                · obtain rfl : j = 4 := by omega
                  have hge : decide ((4 : Int) < 4) = false := by decide
                  have J8 : Hid (MS w S cb mb kb hb (4 * ((i + 1 : Nat) : Int)) hv2 D2 wr) := by
                    have e : 4 * ((i + 1 : Nat) : Int) = 4 * (i : Int) + ((4 : Nat) : Int) := by push_cast; omega
                    rw [e]
                    exact J
                  clear J
                  go_wp2
                  go_roundw
                  case rel => exact ⟨i + 1, hv2, D2, by omega, by go_num, J8⟩
                  case measure => simp [intOf]; omega
          · obtain rfl : i = l.length := by omega
            have B := Lib.hid I.out.mm.bel
            have hge : decide ((l.length : Int) < (l.length : Int)) = false := by simp
            clear I
            go_wp2
            go_ret
            exact ⟨rfl, B.out⟩
end Go.Proofs.YtdlemkmkheokkaaDoor
