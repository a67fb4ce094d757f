/- turnkeylaw10.CacheGone answers true for every input: the walk. -/
import Derived.Test.YtdlemkmkheokkaaDoorUa
import Derived.Test.YtdlemkmkheokkaaDoorCs
namespace Go.Proofs.YtdlemkmkheokkaaDoor
open Go.RowKit

/-- a page of one word, a node, of whose slots slot t has the page's key -/
def pn3 (t : Nat) : SC := { pw1 1 3 1 with na := AC.zero.take 0, nk := up2 (up (SC.new 1 3).nk 0 (nodeKeys 0 K.zero)) 0 t ⟨3, 0, 0, 0, 0⟩ }
def pn3' : SC := { pw1 1 3 1 with na := AC.zero.take 0, nk := up (SC.new 1 3).nk 0 (nodeKeys 0 K.zero) }
theorem pn3_nd (t : Nat) : Nd0 (pn3 t) := ⟨show 0 < 1 by omega, rfl, rfl⟩
theorem Gk.raw {w0 : World} {S : SA} {cb : Nat} {D : SC} {size n : Int} {X : Nat → Prop} {W : World} (h : Gk w0 S cb D size n X W) : ∃ hits cs, 0 ≤ hits ∧ hits ≤ n ∧ Lk w0 S cb D size hits cs X W := by
  obtain ⟨hits, cs, a1, a2, _, hl⟩ := h
  exact ⟨hits, cs, a1, a2, hl⟩

set_option maxRecDepth 100000 in
set_option maxHeartbeats 4000000 in
theorem cacheGone_walk (n : Int) (again : Bool) (w : World) : Calls Tryd.prog 12 #[.int .i64 n, .bool again] w (TrueBelow w) := by
  obtain ⟨t, ht, ht16⟩ : ∃ t : Nat, numB n 16 = (t : Int) ∧ t < 16 := ⟨(numB n 16).toNat, by have := numB_range n 16 (by omega); omega, by have := numB_range n 16 (by omega); omega⟩
  have NB := Lib.hid (fun W => ht ▸ number_any n 16 W (by omega) (by omega))
  have F10 := Lib.hid (fun W => first10 W)
  have SN := Lib.hid (show ∀ W, Calls Tryd.prog 18 #[.int .i64 1, .int .i64 3] W (NewSto W 1 3) from fun W => store_new 1 3 W (by omega) (by omega) (by omega) (by omega))
  have CN := Lib.hid (show ∀ W, Calls Tryd.prog 39 #[.int .i64 8] W (NewCa W 8) from fun W => cache_new 8 W (by omega) (by omega))
  clear ht
  go_enter Tryd.func12, Tryd.ntmps12
  go_wp2_with (fail)
  go_at_call 38
  refine (F10.out _).mono ?_
  rintro e w1 ⟨rfl, hb1⟩
  have HB1 := Lib.hid hb1
  clear hb1
  go_wp2_with (fail)
  go_at_call 26
  refine (NB.out _).mono ?_
  rintro e w' ⟨rfl, rfl⟩
  go_wp2_with (fail)
  go_at_call 18
  refine (SN.out _).mono ?_
  rintro e w2 ⟨S, rfl, hs, hx, hb2⟩
  have L2 := Lib.hid (show LwS w S (SC.new 1 3) w2 from ⟨hs, HB1.out.trans (hb2.mono HB1.out.size), fun x h => Nat.le_trans HB1.out.size (hx x h)⟩)
  clear hs hx hb2 HB1
  go_wp2_with (fail)
  go_at_call 39
  refine (CN.out _).mono ?_
  rintro e w3 ⟨cb, rfl, hcb, hc, hb3⟩
  have L3 := Lib.hid (Lk.start L2.out hc hcb hb3 (by omega) (by omega))
  clear hcb hc hb3 L2
  have q1 := L3.out.sto.p1
  have lp := L3.out.sto.lt S.p.l (.inr (.inr (NA.hl _)))
  have L3b := Lib.hid (L3.out.alloc (.cells #[.int .u32 1] 34))
  have RO := Lib.hid (Row.one w3 (.int .u32 1) 34)
  go_wp2_with (fail)
  go_at_call 19
  refine (pmake S.p 3 AC.zero (SC.new 1 3).pw 0 1 1 ⟨w3.heap.size, 0, none⟩ (fun _ => 1) _ L3b.out.sto.pg (by omega) (by omega) (fun j h => absurd h (Nat.not_lt_zero j)) rfl rfl (by omega) (Nat.ne_of_gt lp) RO.out.lt (row_cell1 RO.out)).mono ?_
  rintro e w4 ⟨rfl, hpg, ho⟩
  have L4 := Lib.hid (show Lk w S cb (pw1 1 3 1) 8 0 [] (fun _ => False) w4 from (L3b.out.page hpg ho).1)
  clear hpg ho q1 lp L3b RO L3
  have z1 := L4.out.sto.p0
  go_wp2_with (fail)
  go_at_call 21
  refine (nmake0 S.n 1 _ _ 0 w4 L4.out.sto.no (by omega) (by omega) (fun j h => absurd h (Nat.not_lt_zero j)) rfl rfl).mono ?_
  rintro e w5 ⟨rfl, hno, ho⟩
  have L5 := Lib.hid (show Lk w S cb pn3' 8 0 [] (fun _ => False) w5 from (L4.out.make hno ho).1)
  clear hno ho L4 z1
  have z1 := L5.out.sto.p0
  have PK := Lib.hid (show Calls Tryd.prog 20 #[.pointer (some ⟨S.s, 0, none⟩), .int .i64 0] w5.drew (KeyBelow w5.drew ⟨3, 0, 0, 0, 0⟩) from page_key S pn3' 0 w5.drew L5.out.drew.sto (by show 0 < 3; omega) rfl)
  go_wp2_with (fail)
  go_region_held3 (fun W => W.cell? ⟨S.s, 0, none⟩ = some (.pointer (some ⟨S.n.b, 0, none⟩)))
    (first | exact z1 | go_keep)
    ((first | (go_at_call 20; refine (PK.out).mono ?_; rintro e w6 ⟨rfl, hb5⟩; have M5 := Lib.hid (L5.out.drew.below hb5); have z1 := M5.out.sto.p0; clear hb5) | (go_at_call 24; refine (set_yes S.n 1 _ _ 0 t ⟨3, 0, 0, 0, 0⟩ _ M5.out.sto.no (by omega) (by omega) rfl ht16 (ok_page 0 (by omega) (by omega))).mono ?_; rintro e w7 ⟨rfl, hno, ho⟩; have M6 := Lib.hid (show Lk w S cb (pn3 t) 8 0 [] (fun _ => False) w7 from (M5.out.set hno ho).1); have z1 := M6.out.sto.p0; clear hno ho)))
  clear PK L5 M5 z1
  have NK := Lib.hid (show Calls Tryd.prog 22 #[.pointer (some ⟨S.s, 0, none⟩), .int .i64 0, .int .i64 1] w7 (KeyBelow w7 ⟨2, 0, 0, 0, 1⟩) from node_key S (pn3 t) 0 1 w7 M6.out.sto (by show 0 < 1; omega) rfl (by omega) (by omega))
  go_wp2_with (fail)
  go_at_call 22
  refine (NK.out).mono ?_
  rintro e w8 ⟨rfl, hb8⟩
  have G9 := Lib.hid (show Gk w S cb (pn3 t) 8 0 (fun x => False ∨ x = w8.heap.size) (w8.alloc (.cells #[.int .i64 2, .int .i64 0, .int .i64 0, .int .i64 0, .int .u32 1] 36)) from ⟨0, [], by omega, by omega, Good.nil _, (M6.out.below hb8).new _⟩)
  have RK := Lib.hid (kn0.box w8 36)
  have FK := Lib.hid (gk_find kn0 (32 * t + 3) ⟨0, 3, false, 0⟩ G9.out (by omega) (by omega) (by omega) (by rw [slot_page (pn3_nd t) t 0 ht16 (32 * t + 3) (by omega) (up2_same _ _ _ _) (show 0 < 3 by omega) rfl rfl, show ((32 : Int) * t + 3) % 32 = 3 by omega]; rfl))
  have ht15 : (t : Int) < 16 := by omega
  clear hb8 NK M6
  go_wp2_with (fail)
  go_at_call 40
  refine (FK.out).mono ?_
  rintro e w10 ⟨he, hg10, hk10⟩
  obtain rfl : e = .returned (.tuple #[.agg #[.int .i64 0, .int .i64 3, .bool false], .int .i64 0]) := he
  obtain ⟨hits, cs, a1, a2, hl10⟩ := hg10.raw
  have RK11 := Lib.hid ((RK.out.of_block (w' := w10) (hk10.2 _ (.inr rfl))).alloc (.cells #[.int .i64 0, .int .i64 3, .bool false] 41))
  have L11 := Lib.hid (hl10.alloc (.cells #[.int .i64 0, .int .i64 3, .bool false] 41))
  have HH := Lib.hid (show 0 ≤ hits ∧ hits ≤ 1000 by omega)
  clear hg10 hk10 hl10 FK a1 a2 G9 RK
  have y1 := L11.out.sto.p1
  have y2 := L11.out.sto.pg.p0
  have GV := Lib.hid (arena_give S.p.a S.p.l 3 (pn3 t).pa 0 _ L11.out.sto.pg.ar (by omega) L11.out.sto.pg.ok.al (by omega) rfl (show (0 : Int) ≤ 0 by omega) (show (0 : Int) < 1000000 by omega))
  have l10 := L11.out.sto.lt S.s (.inl rfl)
  go_wp2_with (fail)
  go_at_call 44
  refine (GV.out).mono ?_
  rintro e w12 ⟨rfl, har, ho⟩
  have hpg : Pg w12 S.p 3 ((pn3 t).pa.give 0) (pn3 t).pw := ⟨L11.out.sto.pg.hd.only ho L11.out.sto.pg.ok.bl, har, L11.out.sto.pg.ks.only ho (fun e => L11.out.sto.pg.ok.lk e.symm), L11.out.sto.pg.ok⟩
  have hY : ∀ x, x = S.p.l → S.p.has x := fun x e => e ▸ NA.hl _
  have L12 := Lib.hid (show Lk w S cb { pn3 t with pa := (pn3 t).pa.give 0 } 8 hits cs (fun x => False ∨ x = w8.heap.size) w12 from L11.out.step ho (fun x hx => .inr (.inr (hY x hx))) (L11.out.sto.setPg ho hY hpg))
  have RK12 := Lib.hid (RK11.out.of_block (w' := w12) ((L11.out.keep_step ho (fun x hx => .inr (.inr (hY x hx)))).2 _ (.inr rfl)))
  clear har ho hpg hY GV y1 y2 l10 L11 RK11
  have CL := Lib.hid (lk_clear L12.out)
  go_wp2_with (fail)
  go_at_call 45
  refine (CL.out).mono ?_
  rintro e w13 ⟨rfl, hl13, hk13⟩
  have L13 := Lib.hid hl13
  have RK13 := Lib.hid (RK12.out.of_block (w' := w13) (hk13.2 _ (.inr rfl)))
  clear hl13 hk13 CL L12 RK12
  cases again with
  | false =>
    have L14 := Lib.hid L13.out
    have RK14 := Lib.hid RK13.out
    have WF : wayF { pn3 t with pa := (pn3 t).pa.give 0 } kn0 (32 * t + 3) = ⟨0, 0, false, 2, [0]⟩ := by
      rw [way_slot (show Nd0 { pn3 t with pa := (pn3 t).pa.give 0 } from ⟨show 0 < 1 by omega, rfl, rfl⟩) t ht16 (32 * t + 3) (by omega), show ({ pn3 t with pa := (pn3 t).pa.give 0 } : SC).nk 0 t = ⟨3, 0, 0, 0, 0⟩ from up2_same _ _ _ _, show walkF { pn3 t with pa := (pn3 t).pa.give 0 } 4 ⟨3, 0, 0, 0, 0⟩ ((32 * (t : Int) + 3) % 32) false 1 = ⟨0, 0, false, 2, []⟩ from page_gone (C := { pn3 t with pa := (pn3 t).pa.give 0 }) 0 0 rfl 3 _ false 1]
    have FN := lk_find kn0 (32 * t + 3) L14.out (by omega) (by omega) HH.out.1 HH.out.2
    rw [find_nil_fault (by rw [WF]; decide), WF] at FN
    have FN1 := Lib.hid FN
    have WY := Lib.hid (fun V (hV : Sto V S { pn3 t with pa := (pn3 t).pa.give 0 }) => show Calls Tryd.prog 23 #[.pointer (some ⟨S.s, 0, none⟩), kn0.v, .int .u32 (32 * t + 3)] V (WayP V ⟨0, 0, false, 2, [0]⟩) from WF ▸ way_any S { pn3 t with pa := (pn3 t).pa.give 0 } kn0 (32 * t + 3) V hV (by omega) (by omega))
    clear WF FN
    obtain ⟨c0, c1, c2, c3, c4⟩ := K.facts RK14.out
    go_wp2_with (fail)
    go_at_call 40
    refine (FN1.out).mono ?_
    rintro e w15 ⟨he, hl15, hk15⟩
    obtain rfl : e = .returned (.tuple #[.agg #[.int .i64 0, .int .i64 0, .bool false], .int .i64 2]) := he
    have L15 := Lib.hid (show Lk w S cb { pn3 t with pa := (pn3 t).pa.give 0 } 8 hits [] (fun x => False ∨ x = w8.heap.size) w15 from hl15)
    have RK15 := Lib.hid (RK14.out.of_block (w' := w15) (hk15.2 _ (.inr rfl)))
    clear hl15 hk15 FN1 c0 c1 c2 c3 c4
    obtain ⟨c0, c1, c2, c3, c4⟩ := K.facts RK15.out
    have lk15 := RK15.out.lt
    go_wp2_with (fail)
    go_at_call 23
    refine (WY.out _ (L15.out.alloc (.cells #[.int .i64 0, .int .i64 0, .bool false] 41)).sto).mono ?_
    rintro e w16 ⟨rfl, hb16⟩
    have L16 := Lib.hid ((L15.out.alloc (.cells #[.int .i64 0, .int .i64 0, .bool false] 41)).below hb16)
    have RP := Lib.hid ((pl_made w15 0 0 false).below hb16)
    have LN := Lib.hid (lk_len (L16.out.alloc (.cells #[.int .i64 0, .int .i64 0, .bool false] 41)))
    have B16 := Lib.hid (L16.out.alloc (.cells #[.int .i64 0, .int .i64 0, .bool false] 41)).bel
    obtain ⟨x0, x1, x2, -, -, -⟩ := pl_facts RP.out
    have lx := RP.out.lt
    clear hb16 c0 c1 c2 c3 c4
    go_wp2_with (go_at_call 41; refine (LN.out).mono ?_; rintro e w' ⟨rfl, rfl⟩)
    go_ret
    exact ⟨rfl, B16.out⟩
  | true =>
    have q1 := L13.out.sto.p1
    have lp := L13.out.sto.lt S.p.l (.inr (.inr (NA.hl _)))
    have L13b := Lib.hid (L13.out.alloc (.cells #[.int .u32 9] 34))
    have RK13b := Lib.hid (RK13.out.alloc (.cells #[.int .u32 9] 34))
    have RO := Lib.hid (Row.one w13 (.int .u32 9) 34)
    go_wp2_with (fail)
    go_at_call 19
    refine (pmake S.p 3 _ _ 0 1 1 ⟨w13.heap.size, 0, none⟩ (fun _ => 9) _ L13b.out.sto.pg (by omega) (by omega) (fun j h => absurd h (Nat.not_lt_zero j)) rfl rfl (by omega) (Nat.ne_of_gt lp) RO.out.lt (row_cell1 RO.out)).mono ?_
    rintro e w14 ⟨rfl, hpg, ho⟩
    have L14 := Lib.hid (show Lk w S cb { pn3 t with pa := ((pn3 t).pa.give 0).take 0, pw := up (pn3 t).pw 0 (pageWords 1 fun _ => 9) } 8 hits [] (fun x => False ∨ x = w8.heap.size) w14 from (L13b.out.page hpg ho).1)
    have RK14 := Lib.hid (RK13b.out.of_block (w' := w14) ((L13b.out.page hpg ho).2.2 _ (.inr rfl)))
    clear hpg ho q1 lp L13b RO L13 RK13b
    have WF : wayF { pn3 t with pa := ((pn3 t).pa.give 0).take 0, pw := up (pn3 t).pw 0 (pageWords 1 fun _ => 9) } kn0 (32 * t + 3) = ⟨0, 0, false, 2, [0]⟩ := by
      rw [way_slot (show Nd0 { pn3 t with pa := ((pn3 t).pa.give 0).take 0, pw := up (pn3 t).pw 0 (pageWords 1 fun _ => 9) } from ⟨show 0 < 1 by omega, rfl, rfl⟩) t ht16 (32 * t + 3) (by omega), show ({ pn3 t with pa := ((pn3 t).pa.give 0).take 0, pw := up (pn3 t).pw 0 (pageWords 1 fun _ => 9) } : SC).nk 0 t = ⟨3, 0, 0, 0, 0⟩ from up2_same _ _ _ _, show walkF { pn3 t with pa := ((pn3 t).pa.give 0).take 0, pw := up (pn3 t).pw 0 (pageWords 1 fun _ => 9) } 4 ⟨3, 0, 0, 0, 0⟩ ((32 * (t : Int) + 3) % 32) false 1 = ⟨0, 0, false, 2, []⟩ from page_stale (C := { pn3 t with pa := ((pn3 t).pa.give 0).take 0, pw := up (pn3 t).pw 0 (pageWords 1 fun _ => 9) }) 0 0 (by show (0 : Int) + 1 ≠ 0; decide) 3 _ false 1]
    have FN := lk_find kn0 (32 * t + 3) L14.out (by omega) (by omega) HH.out.1 HH.out.2
    rw [find_nil_fault (by rw [WF]; decide), WF] at FN
    have FN1 := Lib.hid FN
    have WY := Lib.hid (fun V (hV : Sto V S { pn3 t with pa := ((pn3 t).pa.give 0).take 0, pw := up (pn3 t).pw 0 (pageWords 1 fun _ => 9) }) => show Calls Tryd.prog 23 #[.pointer (some ⟨S.s, 0, none⟩), kn0.v, .int .u32 (32 * t + 3)] V (WayP V ⟨0, 0, false, 2, [0]⟩) from WF ▸ way_any S { pn3 t with pa := ((pn3 t).pa.give 0).take 0, pw := up (pn3 t).pw 0 (pageWords 1 fun _ => 9) } kn0 (32 * t + 3) V hV (by omega) (by omega))
    clear WF FN
    obtain ⟨c0, c1, c2, c3, c4⟩ := K.facts RK14.out
    go_wp2_with (fail)
    go_at_call 40
    refine (FN1.out).mono ?_
    rintro e w15 ⟨he, hl15, hk15⟩
    obtain rfl : e = .returned (.tuple #[.agg #[.int .i64 0, .int .i64 0, .bool false], .int .i64 2]) := he
    have L15 := Lib.hid (show Lk w S cb { pn3 t with pa := ((pn3 t).pa.give 0).take 0, pw := up (pn3 t).pw 0 (pageWords 1 fun _ => 9) } 8 hits [] (fun x => False ∨ x = w8.heap.size) w15 from hl15)
    have RK15 := Lib.hid (RK14.out.of_block (w' := w15) (hk15.2 _ (.inr rfl)))
    clear hl15 hk15 FN1 c0 c1 c2 c3 c4
    obtain ⟨c0, c1, c2, c3, c4⟩ := K.facts RK15.out
    have lk15 := RK15.out.lt
    go_wp2_with (fail)
    go_at_call 23
    refine (WY.out _ (L15.out.alloc (.cells #[.int .i64 0, .int .i64 0, .bool false] 41)).sto).mono ?_
    rintro e w16 ⟨rfl, hb16⟩
    have L16 := Lib.hid ((L15.out.alloc (.cells #[.int .i64 0, .int .i64 0, .bool false] 41)).below hb16)
    have RP := Lib.hid ((pl_made w15 0 0 false).below hb16)
    have LN := Lib.hid (lk_len (L16.out.alloc (.cells #[.int .i64 0, .int .i64 0, .bool false] 41)))
    have B16 := Lib.hid (L16.out.alloc (.cells #[.int .i64 0, .int .i64 0, .bool false] 41)).bel
    obtain ⟨x0, x1, x2, -, -, -⟩ := pl_facts RP.out
    have lx := RP.out.lt
    clear hb16 c0 c1 c2 c3 c4
    go_wp2_with (go_at_call 41; refine (LN.out).mono ?_; rintro e w' ⟨rfl, rfl⟩)
    go_ret
    exact ⟨rfl, B16.out⟩
end Go.Proofs.YtdlemkmkheokkaaDoor
