/- turnkeylaw11.MemReadOnly answers true for every input: the walk. -/
import Derived.Test.YtdlemkmkheokkaaDoorOa
namespace Go.Proofs.YtdlemkmkheokkaaDoor
open Go.RowKit

def w567 : Nat → Int := fun j => if j = 0 then 5 else if j = 1 then 6 else 7
/-- the first page is made, of three words -/
def pr1 (n p : Nat) : SC := { SC.new n p with pa := AC.zero.take 0, pw := up (SC.new n p).pw 0 (pageWords 3 w567) }
/-- and the first node, with a key -/
def pk1 (n p : Nat) (k : K) : SC := { pr1 n p with na := AC.zero.take 0, nk := up (SC.new n p).nk 0 (nodeKeys 1 k) }
theorem row567 (w : World) : Row (w.alloc (.cells #[.int .u32 5, .int .u32 6, .int .u32 7] 34)) w.heap.size 3 (fun j => .int .u32 (w567 j)) :=
  Row.new w #[.int .u32 5, .int .u32 6, .int .u32 7] 34 3 (fun j => .int .u32 (w567 j)) rfl (fun i hi => by rcases (by omega : i = 0 ∨ i = 1 ∨ i = 2) with rfl | rfl | rfl <;> rfl)
theorem row_cells {w : World} {b n : Nat} {f : Nat → Value} (h : Row w b n f) (j : Nat) (hj : j < n) : w.cell? ((⟨b, 0, none⟩ : Addr).add j) = some (f j) := by
  rw [Addr.add_mid, Nat.zero_add]
  exact h.cell j hj

set_option maxRecDepth 100000 in
set_option maxHeartbeats 4000000 in
theorem memReadOnly_walk (rights addr wv : Int) (high : Bool) (ha : 0 ≤ addr ∧ addr < 4294967296) (_hw : 0 ≤ wv ∧ wv < 4294967296) (w : World) : Calls Tryd.prog 16 #[.int .i64 rights, .int .u32 addr, .int .u32 wv, .bool high] w (TrueBelow w) := by
  obtain ⟨ha0, ha1⟩ := ha
  obtain ⟨r, hr, hr0, hr7⟩ : ∃ r : Int, bits .and .i64 rights 7 = r ∧ 0 ≤ r ∧ r ≤ 7 := ⟨rights % 8, by rw [and7], by omega, by omega⟩
  obtain ⟨b, hb5, hb⟩ : ∃ b, (bits .and .i64 rights 5 != 0) = b ∧ weakB r = b := ⟨_, rfl, by rw [← hr, and7, weak_mod8]; rfl⟩
  have HB := Lib.hid hb
  have F9 := Lib.hid (fun W => first11 W)
  have MN := Lib.hid (show ∀ W, Calls Tryd.prog 28 #[.int .i64 2, .int .i64 2, .int .i64 3] W (NewMe W 2 2 3) from fun W => mem_new 2 2 3 W (by omega) (by omega) (by omega) (by omega) (by omega) (by omega))
  clear hb
  go_enter Tryd.func16, Tryd.ntmps16
  go_wp2_with (fail)
  go_at_call 27
  refine (F9.out _).mono ?_
  rintro e w1 ⟨rfl, hb1⟩
  have HB1 := Lib.hid hb1
  clear hb1
  go_wp2_with (fail)
  go_at_call 28
  refine (MN.out _).mono ?_
  rintro e w2 ⟨S, cb, mb, rfl, hmb, hm⟩
  have M2 := Lib.hid (hm.rebase HB1.out)
  have q0 := M2.out.mm.q0
  have q1 := M2.out.mm.sto.p1
  have lp := M2.out.mm.sto.lt S.p.l (.inr (.inr (NA.hl _)))
  clear hm hmb HB1
  go_wp2_with (fail)
  go_at_call 19
  have M2b := Lib.hid (M2.out.below ((Below.refl _ w2).alloc (Nat.le_refl _) (.cells #[.int .u32 5, .int .u32 6, .int .u32 7] 34)))
  refine (pmake S.p 2 AC.zero (SC.new 2 2).pw 0 3 3 ⟨w2.heap.size, 0, none⟩ w567 _ M2b.out.mm.sto.pg (by omega) (by omega) (fun j h => absurd h (Nat.not_lt_zero j)) rfl rfl (by omega) (Nat.ne_of_gt lp) (row567 w2).lt (row_cells (row567 w2))).mono ?_
  rintro e w3 ⟨rfl, hpg, ho⟩
  have M3 := Lib.hid (show Me0 w S cb mb (pr1 2 2) 3 0 (fun x => x = mb) w3 from (M2b.out.page hpg ho).1)
  clear hpg ho M2 M2b q0 q1 lp
  have z0 := M3.out.mm.q0
  have PK := Lib.hid (show Calls Tryd.prog 20 #[.pointer (some ⟨S.s, 0, none⟩), .int .i64 0] w3 (KeyBelow w3 ⟨3, 0, 0, 0, 0⟩) from page_key S (pr1 2 2) 0 w3 M3.out.mm.sto (by show 0 < 2; omega) rfl)
  go_wp2_with (fail)
  go_at_call 20
  refine (PK.out).mono ?_
  rintro e w4 ⟨rfl, hb4⟩
  have M5 := Lib.hid ((M3.out.below hb4).new (.cells #[.int .i64 3, .int .i64 0, .int .i64 0, .int .i64 r, .int .u32 0] 36))
  have nk : mb < w4.heap.size := ((M3.out.below hb4).mm.hX mb rfl).1
  have l4 : w.heap.size ≤ w4.heap.size := (M3.out.below hb4).mm.bel.size
  have RK5 := Lib.hid ((⟨3, 0, 0, r, 0⟩ : K).box w4 36)
  clear PK z0 hb4 M3
  cases high with
  | false =>
    have FT : wayF (pr1 2 2) ⟨3, 0, 0, r, 0⟩ (addr % 32) = ⟨0, addr % 32, b, 0, []⟩ := by
      rw [way_first (pr1 2 2) ⟨3, 0, 0, r, 0⟩ (addr % 32) (by omega) (by omega) (by kernel_rfl), show (wayF (pr1 2 2) ⟨3, 0, 0, r, 0⟩ 0).ro = weakB r by kernel_rfl, show (wayF (pr1 2 2) ⟨3, 0, 0, r, 0⟩ 0).page = 0 by kernel_rfl, show (wayF (pr1 2 2) ⟨3, 0, 0, r, 0⟩ 0).nodes = [] by kernel_rfl, HB.out]
    obtain ⟨R, hR⟩ : ∃ R : WR, R = ⟨0, addr % 32, b, 0, []⟩ := ⟨_, rfl⟩
    rw [← hR] at FT
    have LD := Lib.hid (show Calls Tryd.prog 32 #[.pointer (some ⟨mb, 0, none⟩), (⟨3, 0, 0, r, 0⟩ : K).v, .int .u32 (addr % 32)] (w4.alloc (.cells #[.int .i64 3, .int .i64 0, .int .i64 0, .int .i64 r, .int .u32 0] 36)) (LoadM w S cb mb (pr1 2 2) 3 0 (fun x => x = mb ∨ x = w4.heap.size) R (w4.alloc (.cells #[.int .i64 3, .int .i64 0, .int .i64 0, .int .i64 r, .int .u32 0] 36))) from FT ▸ mem_load ⟨3, 0, 0, r, 0⟩ (addr % 32) M5.out.mm (by omega) (by omega) (by omega))
    obtain ⟨c0, c1, c2, c3, c4⟩ := K.facts RK5.out
    obtain ⟨v0, hv0⟩ : ∃ v0, v0 = loadV (pr1 2 2) R := ⟨_, rfl⟩
    have HV0 := Lib.hid hv0
    have HR := Lib.hid hR
    have HFT := Lib.hid FT
    clear hv0 hR FT
    go_wp2_with (fail)
    go_at_call 32
    refine (LD.out).mono ?_
    rintro e w8 ⟨he, hm8, hk8⟩
    rw [← HV0.out, show R.fault = 0 by rw [HR.out]] at he
    subst he
    have R8 := Lib.hid (RK5.out.of_block (w' := w8) (hk8.2 _ (.inr rfl)))
    have M8 := Lib.hid hm8
    clear hm8 hk8 c0 c1 c2 c3 c4 LD
    obtain ⟨c0, c1, c2, c3, c4⟩ := K.facts R8.out
    have SV := Lib.hid (show Calls Tryd.prog 29 #[.pointer (some ⟨mb, 0, none⟩), (⟨3, 0, 0, r, 0⟩ : K).v, .int .u32 (addr % 32), .int .u32 wv] w8 (SaveM w S cb mb (pr1 2 2) 3 1 (fun x => x = mb ∨ x = w4.heap.size) R wv w8) from HFT.out ▸ mem_save ⟨3, 0, 0, r, 0⟩ (addr % 32) wv M8.out (by omega) (by omega) (by omega))
    have e1 : saveC R = if b = true then 4 else 0 := by rw [HR.out]; rfl
    have e2 : saveD (pr1 2 2) R wv = if b = true then (pr1 2 2) else { (pr1 2 2) with pw := up2 (pr1 2 2).pw 0 (addr % 32).toNat wv } := by
      rw [HR.out]
      cases b
      · rfl
      · rfl
    go_wp2_with (fail)
    go_at_call 29
    refine (SV.out).mono ?_
    rintro e w9 ⟨rfl, hm9, hk9⟩
    rw [e1]
    rw [e2] at hm9
    have R9 := Lib.hid (R8.out.of_block (w' := w9) (hk9.2 _ (.inr rfl)))
    clear c0 c1 c2 c3 c4 SV e1 e2
    obtain ⟨c0, c1, c2, c3, c4⟩ := K.facts R9.out
    cases b with
    | true =>
      rw [if_pos rfl] at hm9 ⊢
      have M9 := Lib.hid hm9
      have LD := Lib.hid (show Calls Tryd.prog 32 #[.pointer (some ⟨mb, 0, none⟩), (⟨3, 0, 0, r, 0⟩ : K).v, .int .u32 (addr % 32)] w9 (LoadM w S cb mb (pr1 2 2) 3 2 (fun x => x = mb ∨ x = w4.heap.size) R w9) from HFT.out ▸ mem_load ⟨3, 0, 0, r, 0⟩ (addr % 32) M9.out (by omega) (by omega) (by omega))
      clear hm9 hk9
      go_wp2_with (fail)
      go_at_call 32
      refine (LD.out).mono ?_
      rintro e w10 ⟨he, hm10, hk10⟩
      rw [← HV0.out, show R.fault = 0 by rw [HR.out]] at he
      subst he
      have B10 := Lib.hid hm10.bel
      clear hm10 hk10 c0 c1 c2 c3 c4 LD
      go_wp2
      go_ret
      exact ⟨rfl, B10.out⟩
    | false =>
      rw [if_neg (by decide)] at hm9 ⊢
      have M9 := Lib.hid hm9
      have HFT2 := Lib.hid (show wayF { (pr1 2 2) with pw := up2 (pr1 2 2).pw 0 (addr % 32).toNat wv } ⟨3, 0, 0, r, 0⟩ (addr % 32) = R by rw [way_pw]; exact HFT.out)
      have LD := Lib.hid (show Calls Tryd.prog 32 #[.pointer (some ⟨mb, 0, none⟩), (⟨3, 0, 0, r, 0⟩ : K).v, .int .u32 (addr % 32)] w9 (LoadM w S cb mb { (pr1 2 2) with pw := up2 (pr1 2 2).pw 0 (addr % 32).toNat wv } 3 2 (fun x => x = mb ∨ x = w4.heap.size) R w9) from HFT2.out ▸ mem_load ⟨3, 0, 0, r, 0⟩ (addr % 32) M9.out (by omega) (by omega) (by omega))
      have HV2 := Lib.hid (show loadV { (pr1 2 2) with pw := up2 (pr1 2 2).pw 0 (addr % 32).toNat wv } R = wv by rw [HR.out]; exact up2_same _ _ _ _)
      clear hm9 hk9
      go_wp2_with (fail)
      go_at_call 32
      refine (LD.out).mono ?_
      rintro e w10 ⟨he, hm10, hk10⟩
      rw [HV2.out, show R.fault = 0 by rw [HR.out]] at he
      subst he
      have R10 := Lib.hid (R9.out.of_block (w' := w10) (hk10.2 _ (.inr rfl)))
      have M10 := Lib.hid hm10
      clear hm10 hk10 c0 c1 c2 c3 c4 LD
      obtain ⟨c0, c1, c2, c3, c4⟩ := K.facts R10.out
      have z0 := M10.out.q0
      have WY := Lib.hid (fun V (hV : Sto V S { (pr1 2 2) with pw := up2 (pr1 2 2).pw 0 (addr % 32).toNat wv }) => show Calls Tryd.prog 23 #[.pointer (some ⟨S.s, 0, none⟩), (⟨3, 0, 0, r, 0⟩ : K).v, .int .u32 (addr % 32)] V (WayP V R) from HFT2.out ▸ way_any S _ ⟨3, 0, 0, r, 0⟩ (addr % 32) V hV (by omega) (by omega))
      have lk := R10.out.lt
      have n1 : w10.heap.size ≠ mb := Nat.ne_of_gt (M10.out.hX mb (.inl rfl)).1
      have n2 : w10.heap.size ≠ w4.heap.size := Nat.ne_of_gt lk
      go_wp2_with (fail)
      go_region_held3 (fun V => V.cell? ⟨mb, 0, none⟩ = some (.pointer (some ⟨S.s, 0, none⟩)) ∧ V.cell? ⟨w4.heap.size, 0, none⟩ = some (.int .i64 (⟨3, 0, 0, r, 0⟩ : K).kind) ∧ V.cell? ⟨w4.heap.size, 1, none⟩ = some (.int .i64 (⟨3, 0, 0, r, 0⟩ : K).id) ∧ V.cell? ⟨w4.heap.size, 2, none⟩ = some (.int .i64 (⟨3, 0, 0, r, 0⟩ : K).ver) ∧ V.cell? ⟨w4.heap.size, 3, none⟩ = some (.int .i64 (⟨3, 0, 0, r, 0⟩ : K).rights) ∧ V.cell? ⟨w4.heap.size, 4, none⟩ = some (.int .u32 (⟨3, 0, 0, r, 0⟩ : K).data))
        (first | exact ⟨z0, c0, c1, c2, c3, c4⟩ | go_keep)
        ((go_at_call 23; refine (WY.out _ (by first | exact (M10.out.below ((Below.refl _ _).drew)).sto | exact (M10.out.below (((Below.refl _ _).drew).alloc (Nat.le_refl _) _)).sto)).mono ?_; rintro e w7 ⟨he, hb7⟩; rw [HR.out] at he; subst he; (try (have r7 : Row w7 w10.heap.size 3 (plCell 0 0 false) := (pl_new w10.drew).below hb7; obtain ⟨p0, p1, p2, q0, q1, q2⟩ := pl_facts r7)); have M7 := Lib.hid (show Mm w S cb mb _ 3 3 (fun x => x = mb ∨ x = w4.heap.size) w7 from (by first | exact (M10.out.below ((Below.refl _ _).drew)).below hb7 | exact (M10.out.below (((Below.refl _ _).drew).alloc (Nat.le_refl _) _)).below hb7)); have R7 := Lib.hid (show Row w7 w4.heap.size 5 (⟨3, 0, 0, r, 0⟩ : K).cell from (by first | exact (R10.out.below ((Below.refl _ _).drew)).below hb7 | exact (R10.out.below (((Below.refl _ _).drew).alloc (Nat.le_refl _) _)).below hb7)); have B7 := Lib.hid M7.out.bel; have z0 := M7.out.q0; obtain ⟨c0, c1, c2, c3, c4⟩ := K.facts R7.out; clear hb7))
      all_goals go_wp2
      all_goals go_ret
      all_goals (refine ⟨rfl, ?_⟩; first | exact B7.out.alloc B7.out.size _ | exact ((B7.out.setCell (p := ⟨w10.heap.size, 0, none⟩) M10.out.bel.size _).setCell (p := ⟨w10.heap.size, 1, none⟩) M10.out.bel.size _).setCell (p := ⟨w10.heap.size, 2, none⟩) M10.out.bel.size _)
  | true =>
    obtain ⟨wx, hwx⟩ : ∃ wx, wx = w4.alloc (.cells #[.int .i64 3, .int .i64 0, .int .i64 0, .int .i64 r, .int .u32 0] 36) := ⟨_, rfl⟩
    rw [← hwx] at M5 RK5
    have HWX := Lib.hid hwx
    clear hwx
    obtain ⟨k0, k1, k2, k3, k4⟩ := K.facts RK5.out
    have z0 := M5.out.mm.q0
    have z1 := M5.out.mm.sto.p0
    have l5 := Lib.hid (M5.out.mm.sto.lt S.n.l (.inr (.inl (NA.hl _))))
    have hok : Hid (okK ⟨3, 0, 0, r, 0⟩) := .inr (.inr (.inr ⟨rfl, by simp, by simp, by simp, by simp, hr0, hr7, rfl⟩))
    go_wp2_with (fail)
    rw [← HWX.out]
    go_region_held3 (fun W => W.cell? ⟨mb, 0, none⟩ = some (.pointer (some ⟨S.s, 0, none⟩)) ∧ W.cell? ⟨S.s, 0, none⟩ = some (.pointer (some ⟨S.n.b, 0, none⟩)) ∧ W.cell? ⟨w4.heap.size, 0, none⟩ = some (.int .i64 3) ∧ W.cell? ⟨w4.heap.size, 1, none⟩ = some (.int .i64 0) ∧ W.cell? ⟨w4.heap.size, 2, none⟩ = some (.int .i64 0) ∧ W.cell? ⟨w4.heap.size, 3, none⟩ = some (.int .i64 r) ∧ W.cell? ⟨w4.heap.size, 4, none⟩ = some (.int .u32 0))
      (first | exact ⟨z0, z1, k0, k1, k2, k3, k4⟩ | go_keep)
      ((go_at_call 21; refine (nmake1 S.n 2 AC.zero (SC.new 2 2).nk 0 wx.heap.size ⟨3, 0, 0, r, 0⟩ _ ((M5.out.below ((Below.refl _ wx).drew)).new (.cells #[.int .i64 3, .int .i64 0, .int .i64 0, .int .i64 r, .int .u32 0] 36)).mm.sto.no (by omega) (by omega) (fun j h => absurd h (Nat.not_lt_zero j)) rfl rfl hok.out ((⟨3, 0, 0, r, 0⟩ : K).box wx.drew 36) (Nat.ne_of_gt l5.out)).mono ?_; rintro e w6 ⟨rfl, hno, ho⟩; have M6 := Lib.hid (show Me0 w S cb mb (pk1 2 2 ⟨3, 0, 0, r, 0⟩) 3 0 (fun x => x = mb ∨ x = w4.heap.size) w6 from (((M5.out.below ((Below.refl _ wx).drew)).new (.cells #[.int .i64 3, .int .i64 0, .int .i64 0, .int .i64 r, .int .u32 0] 36)).make hno ho).1.less (fun x hx => .inl hx) (.inl rfl)); have R6 := Lib.hid (((RK5.out.below ((Below.refl _ wx).drew)).alloc (.cells #[.int .i64 3, .int .i64 0, .int .i64 0, .int .i64 r, .int .u32 0] 36)).of_block (w' := w6) ((((M5.out.below ((Below.refl _ wx).drew)).new (.cells #[.int .i64 3, .int .i64 0, .int .i64 0, .int .i64 r, .int .u32 0] 36)).make hno ho).2.2 _ (.inl (.inr rfl)))); have z0 := M6.out.mm.q0; have z1 := M6.out.mm.sto.p0; obtain ⟨k0, k1, k2, k3, k4⟩ := K.facts R6.out; clear hno ho))
    have NK := Lib.hid (show Calls Tryd.prog 22 #[.pointer (some ⟨S.s, 0, none⟩), .int .i64 0, .int .i64 1] w6 (KeyBelow w6 ⟨2, 0, 0, 0, 1⟩) from node_key S (pk1 2 2 ⟨3, 0, 0, r, 0⟩) 0 1 w6 M6.out.mm.sto (by show 0 < 2; omega) rfl (by omega) (by omega))
    go_wp2_with (fail)
    go_at_call 22
    refine (NK.out).mono ?_
    rintro e w6b ⟨rfl, hb6⟩
    have M6b := Lib.hid (M6.out.below hb6)
    have R6b := Lib.hid (R6.out.below hb6)
    clear k0 k1 k2 k3 k4 z0 z1 NK hb6
    obtain ⟨k0, k1, k2, k3, k4⟩ := K.facts R6b.out
    have f0 := R6b.out.frozen 0
    have f1 := R6b.out.frozen 1
    have f2 := R6b.out.frozen 2
    have f3 := R6b.out.frozen 3
    have f4 := R6b.out.frozen 4
    have BS := box_set R6b.out (k' := ⟨2, 0, 0, 0, 1⟩)
    have o := key_only' (X := fun x => x = w4.heap.size) (b := w4.heap.size) (Only.refl _ w6b) (.inl rfl) (.int .i64 2) (.int .i64 0) (.int .i64 0) (.int .i64 0) (.int .u32 1)
    obtain ⟨w7, hw7⟩ : ∃ w7, w7 = ((((w6b.setCell ⟨w4.heap.size, 0, none⟩ (.int .i64 2)).setCell ⟨w4.heap.size, 1, none⟩ (.int .i64 0)).setCell ⟨w4.heap.size, 2, none⟩ (.int .i64 0)).setCell ⟨w4.heap.size, 3, none⟩ (.int .i64 0)).setCell ⟨w4.heap.size, 4, none⟩ (.int .u32 1) := ⟨_, rfl⟩
    rw [← hw7] at o
    have RK7 : Hid (Row w7 w4.heap.size 5 (⟨2, 0, 0, 0, 1⟩ : K).cell) := by rw [hw7]; exact BS
    have T7 : Hid (Me0 w S cb mb (pk1 2 2 ⟨3, 0, 0, r, 0⟩) 3 0 (fun x => x = mb ∨ x = w4.heap.size) w7) := M6b.out.boxw o (.inr rfl) (by omega) l4
    have HW7 := Lib.hid hw7
    clear BS o hw7
    have FT : wayF (pk1 2 2 ⟨3, 0, 0, r, 0⟩) ⟨2, 0, 0, 0, 1⟩ (addr % 32) = ⟨0, addr % 32, b, 0, [0]⟩ := by
      rw [way_first (pk1 2 2 ⟨3, 0, 0, r, 0⟩) ⟨2, 0, 0, 0, 1⟩ (addr % 32) (by omega) (by omega) (by kernel_rfl), show (wayF (pk1 2 2 ⟨3, 0, 0, r, 0⟩) ⟨2, 0, 0, 0, 1⟩ 0).ro = weakB r by kernel_rfl, show (wayF (pk1 2 2 ⟨3, 0, 0, r, 0⟩) ⟨2, 0, 0, 0, 1⟩ 0).page = 0 by kernel_rfl, show (wayF (pk1 2 2 ⟨3, 0, 0, r, 0⟩) ⟨2, 0, 0, 0, 1⟩ 0).nodes = [0] by kernel_rfl, HB.out]
    obtain ⟨R, hR⟩ : ∃ R : WR, R = ⟨0, addr % 32, b, 0, [0]⟩ := ⟨_, rfl⟩
    rw [← hR] at FT
    have LD := Lib.hid (show Calls Tryd.prog 32 #[.pointer (some ⟨mb, 0, none⟩), (⟨2, 0, 0, 0, 1⟩ : K).v, .int .u32 (addr % 32)] w7 (LoadM w S cb mb (pk1 2 2 ⟨3, 0, 0, r, 0⟩) 3 0 (fun x => x = mb ∨ x = w4.heap.size) R w7) from FT ▸ mem_load ⟨2, 0, 0, 0, 1⟩ (addr % 32) T7.out.mm (by omega) (by omega) (by omega))
    obtain ⟨c0, c1, c2, c3, c4⟩ := K.facts RK7.out
    obtain ⟨v0, hv0⟩ : ∃ v0, v0 = loadV (pk1 2 2 ⟨3, 0, 0, r, 0⟩) R := ⟨_, rfl⟩
    have HV0 := Lib.hid hv0
    have HR := Lib.hid hR
    have HFT := Lib.hid FT
    clear hv0 hR FT
    go_wp2_with (fail)
    rw [← HW7.out]
    go_at_call 32
    refine (LD.out).mono ?_
    rintro e w8 ⟨he, hm8, hk8⟩
    rw [← HV0.out, show R.fault = 0 by rw [HR.out]] at he
    subst he
    have R8 := Lib.hid (RK7.out.of_block (w' := w8) (hk8.2 _ (.inr rfl)))
    have M8 := Lib.hid hm8
    clear hm8 hk8 c0 c1 c2 c3 c4 LD
    obtain ⟨c0, c1, c2, c3, c4⟩ := K.facts R8.out
    have SV := Lib.hid (show Calls Tryd.prog 29 #[.pointer (some ⟨mb, 0, none⟩), (⟨2, 0, 0, 0, 1⟩ : K).v, .int .u32 (addr % 32), .int .u32 wv] w8 (SaveM w S cb mb (pk1 2 2 ⟨3, 0, 0, r, 0⟩) 3 1 (fun x => x = mb ∨ x = w4.heap.size) R wv w8) from HFT.out ▸ mem_save ⟨2, 0, 0, 0, 1⟩ (addr % 32) wv M8.out (by omega) (by omega) (by omega))
    have e1 : saveC R = if b = true then 4 else 0 := by rw [HR.out]; rfl
    have e2 : saveD (pk1 2 2 ⟨3, 0, 0, r, 0⟩) R wv = if b = true then (pk1 2 2 ⟨3, 0, 0, r, 0⟩) else { (pk1 2 2 ⟨3, 0, 0, r, 0⟩) with pw := up2 (pk1 2 2 ⟨3, 0, 0, r, 0⟩).pw 0 (addr % 32).toNat wv } := by
      rw [HR.out]
      cases b
      · rfl
      · rfl
    go_wp2_with (fail)
    go_at_call 29
    refine (SV.out).mono ?_
    rintro e w9 ⟨rfl, hm9, hk9⟩
    rw [e1]
    rw [e2] at hm9
    have R9 := Lib.hid (R8.out.of_block (w' := w9) (hk9.2 _ (.inr rfl)))
    clear c0 c1 c2 c3 c4 SV e1 e2
    obtain ⟨c0, c1, c2, c3, c4⟩ := K.facts R9.out
    cases b with
    | true =>
      rw [if_pos rfl] at hm9 ⊢
      have M9 := Lib.hid hm9
      have LD := Lib.hid (show Calls Tryd.prog 32 #[.pointer (some ⟨mb, 0, none⟩), (⟨2, 0, 0, 0, 1⟩ : K).v, .int .u32 (addr % 32)] w9 (LoadM w S cb mb (pk1 2 2 ⟨3, 0, 0, r, 0⟩) 3 2 (fun x => x = mb ∨ x = w4.heap.size) R w9) from HFT.out ▸ mem_load ⟨2, 0, 0, 0, 1⟩ (addr % 32) M9.out (by omega) (by omega) (by omega))
      clear hm9 hk9
      go_wp2_with (fail)
      go_at_call 32
      refine (LD.out).mono ?_
      rintro e w10 ⟨he, hm10, hk10⟩
      rw [← HV0.out, show R.fault = 0 by rw [HR.out]] at he
      subst he
      have B10 := Lib.hid hm10.bel
      clear hm10 hk10 c0 c1 c2 c3 c4 LD
      go_wp2
      go_ret
      exact ⟨rfl, B10.out⟩
    | false =>
      rw [if_neg (by decide)] at hm9 ⊢
      have M9 := Lib.hid hm9
      have HFT2 := Lib.hid (show wayF { (pk1 2 2 ⟨3, 0, 0, r, 0⟩) with pw := up2 (pk1 2 2 ⟨3, 0, 0, r, 0⟩).pw 0 (addr % 32).toNat wv } ⟨2, 0, 0, 0, 1⟩ (addr % 32) = R by rw [way_pw]; exact HFT.out)
      have LD := Lib.hid (show Calls Tryd.prog 32 #[.pointer (some ⟨mb, 0, none⟩), (⟨2, 0, 0, 0, 1⟩ : K).v, .int .u32 (addr % 32)] w9 (LoadM w S cb mb { (pk1 2 2 ⟨3, 0, 0, r, 0⟩) with pw := up2 (pk1 2 2 ⟨3, 0, 0, r, 0⟩).pw 0 (addr % 32).toNat wv } 3 2 (fun x => x = mb ∨ x = w4.heap.size) R w9) from HFT2.out ▸ mem_load ⟨2, 0, 0, 0, 1⟩ (addr % 32) M9.out (by omega) (by omega) (by omega))
      have HV2 := Lib.hid (show loadV { (pk1 2 2 ⟨3, 0, 0, r, 0⟩) with pw := up2 (pk1 2 2 ⟨3, 0, 0, r, 0⟩).pw 0 (addr % 32).toNat wv } R = wv by rw [HR.out]; exact up2_same _ _ _ _)
      clear hm9 hk9
      go_wp2_with (fail)
      go_at_call 32
      refine (LD.out).mono ?_
      rintro e w10 ⟨he, hm10, hk10⟩
      rw [HV2.out, show R.fault = 0 by rw [HR.out]] at he
      subst he
      have R10 := Lib.hid (R9.out.of_block (w' := w10) (hk10.2 _ (.inr rfl)))
      have M10 := Lib.hid hm10
      clear hm10 hk10 c0 c1 c2 c3 c4 LD
      obtain ⟨c0, c1, c2, c3, c4⟩ := K.facts R10.out
      have z0 := M10.out.q0
      have WY := Lib.hid (fun V (hV : Sto V S { (pk1 2 2 ⟨3, 0, 0, r, 0⟩) with pw := up2 (pk1 2 2 ⟨3, 0, 0, r, 0⟩).pw 0 (addr % 32).toNat wv }) => show Calls Tryd.prog 23 #[.pointer (some ⟨S.s, 0, none⟩), (⟨2, 0, 0, 0, 1⟩ : K).v, .int .u32 (addr % 32)] V (WayP V R) from HFT2.out ▸ way_any S _ ⟨2, 0, 0, 0, 1⟩ (addr % 32) V hV (by omega) (by omega))
      have lk := R10.out.lt
      have n1 : w10.heap.size ≠ mb := Nat.ne_of_gt (M10.out.hX mb (.inl rfl)).1
      have n2 : w10.heap.size ≠ w4.heap.size := Nat.ne_of_gt lk
      go_wp2_with (fail)
      go_region_held3 (fun V => V.cell? ⟨mb, 0, none⟩ = some (.pointer (some ⟨S.s, 0, none⟩)) ∧ V.cell? ⟨w4.heap.size, 0, none⟩ = some (.int .i64 (⟨2, 0, 0, 0, 1⟩ : K).kind) ∧ V.cell? ⟨w4.heap.size, 1, none⟩ = some (.int .i64 (⟨2, 0, 0, 0, 1⟩ : K).id) ∧ V.cell? ⟨w4.heap.size, 2, none⟩ = some (.int .i64 (⟨2, 0, 0, 0, 1⟩ : K).ver) ∧ V.cell? ⟨w4.heap.size, 3, none⟩ = some (.int .i64 (⟨2, 0, 0, 0, 1⟩ : K).rights) ∧ V.cell? ⟨w4.heap.size, 4, none⟩ = some (.int .u32 (⟨2, 0, 0, 0, 1⟩ : K).data))
        (first | exact ⟨z0, c0, c1, c2, c3, c4⟩ | go_keep)
        ((go_at_call 23; refine (WY.out _ (by first | exact (M10.out.below ((Below.refl _ _).drew)).sto | exact (M10.out.below (((Below.refl _ _).drew).alloc (Nat.le_refl _) _)).sto)).mono ?_; rintro e w7 ⟨he, hb7⟩; rw [HR.out] at he; subst he; (try (have r7 : Row w7 w10.heap.size 3 (plCell 0 0 false) := (pl_new w10.drew).below hb7; obtain ⟨p0, p1, p2, q0, q1, q2⟩ := pl_facts r7)); have M7 := Lib.hid (show Mm w S cb mb _ 3 3 (fun x => x = mb ∨ x = w4.heap.size) w7 from (by first | exact (M10.out.below ((Below.refl _ _).drew)).below hb7 | exact (M10.out.below (((Below.refl _ _).drew).alloc (Nat.le_refl _) _)).below hb7)); have R7 := Lib.hid (show Row w7 w4.heap.size 5 (⟨2, 0, 0, 0, 1⟩ : K).cell from (by first | exact (R10.out.below ((Below.refl _ _).drew)).below hb7 | exact (R10.out.below (((Below.refl _ _).drew).alloc (Nat.le_refl _) _)).below hb7)); have B7 := Lib.hid M7.out.bel; have z0 := M7.out.q0; obtain ⟨c0, c1, c2, c3, c4⟩ := K.facts R7.out; clear hb7))
      all_goals go_wp2
      all_goals go_ret
      all_goals (refine ⟨rfl, ?_⟩; first | exact B7.out.alloc B7.out.size _ | exact ((B7.out.setCell (p := ⟨w10.heap.size, 0, none⟩) M10.out.bel.size _).setCell (p := ⟨w10.heap.size, 1, none⟩) M10.out.bel.size _).setCell (p := ⟨w10.heap.size, 2, none⟩) M10.out.bel.size _)
end Go.Proofs.YtdlemkmkheokkaaDoor
