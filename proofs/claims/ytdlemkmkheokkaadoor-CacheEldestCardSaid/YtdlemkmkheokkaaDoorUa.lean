/- turnkeylaw10.CacheRoots answers true for every input: the walk. -/
import Derived.Test.YtdlemkmkheokkaaDoorTc
namespace Go.Proofs.YtdlemkmkheokkaaDoor
open Go.RowKit

/-- a store and a cache whose ways are true -/
def Gk (w0 : World) (S : SA) (cb : Nat) (D : SC) (size n : Int) (X : Nat → Prop) (W : World) : Prop := ∃ hits cs, 0 ≤ hits ∧ hits ≤ n ∧ Good D cs ∧ Lk w0 S cb D size hits cs X W
section
variable {w0 : World} {S : SA} {cb : Nat} {D : SC} {size n : Int} {X : Nat → Prop} {W W' : World}
theorem Gk.below (h : Gk w0 S cb D size n X W) (b : Below W.heap.size W W') : Gk w0 S cb D size n X W' := by
  obtain ⟨hits, cs, a1, a2, a3, hl⟩ := h
  exact ⟨hits, cs, a1, a2, a3, hl.below b⟩
theorem Gk.box (h : Gk w0 S cb D size n X W) (b : Below W.heap.size W W') {g : Nat} (hg : W.heap.size ≤ g) (hlt : g < W'.heap.size) : Gk w0 S cb D size n (fun x => X x ∨ x = g) W' := by
  obtain ⟨hits, cs, a1, a2, a3, hl⟩ := h
  exact ⟨hits, cs, a1, a2, a3, hl.box b hg hlt⟩
theorem Gk.new (h : Gk w0 S cb D size n X W) (o : Obj) : Gk w0 S cb D size n (fun x => X x ∨ x = W.heap.size) (W.alloc o) :=
  h.box ((Below.refl _ _).alloc (Nat.le_refl _) o) (Nat.le_refl _) (by simp)
theorem Gk.bel (h : Gk w0 S cb D size n X W) : Below w0.heap.size w0 W := by
  obtain ⟨hits, cs, a1, a2, a3, hl⟩ := h
  exact hl.bel
theorem Gk.sto (h : Gk w0 S cb D size n X W) : Sto W S D := by
  obtain ⟨hits, cs, a1, a2, a3, hl⟩ := h
  exact hl.sto
theorem Gk.hX (h : Gk w0 S cb D size n X W) : ∀ x, X x → x < W.heap.size ∧ x ≠ cb ∧ ¬ S.has x := by
  obtain ⟨hits, cs, a1, a2, a3, hl⟩ := h
  exact hl.hX
theorem Gk.more {m : Int} (h : Gk w0 S cb D size n X W) (e : n ≤ m) : Gk w0 S cb D size m X W := by
  obtain ⟨hits, cs, a1, a2, a3, hl⟩ := h
  exact ⟨hits, cs, a1, by omega, a3, hl⟩
theorem gk_find (k : K) (addr : Int) (R : FR) (h : Gk w0 S cb D size n X W) (ha0 : 0 ≤ addr) (ha1 : addr < 4294967296) (hn : n ≤ 1000) (hR : (wayF D k addr).fr = R) :
    Calls Tryd.prog 40 #[.pointer (some ⟨cb, 0, none⟩), .pointer (some ⟨S.s, 0, none⟩), k.v, .int .u32 addr] W fun e W' => e = .returned R.v ∧ Gk w0 S cb D size (n + 1) X W' ∧ Keep X W W' := by
  obtain ⟨hits, cs, a1, a2, a3, hl⟩ := h
  have G := good_find a3 size k addr ha0
  refine (lk_find k addr hl ha0 ha1 a1 (by omega)).mono ?_
  rintro e W' ⟨rfl, h1, h2⟩
  refine ⟨by rw [G.1, hR], ⟨_, _, ?_, ?_, G.2, h1⟩, h2⟩
  · split <;> omega
  · split <;> omega
end
/-- a way in the first page -/
theorem way_at (C : SC) (k : K) (a : Int) (h0 : 0 ≤ a) (h1 : a < 32) (hf : (wayF C k 0).fault = 0) : (wayF C k a).fr = ⟨(wayF C k 0).page, a, (wayF C k 0).ro, 0⟩ := by
  have := ((way_page C k 0 a (by omega) (by omega)).1 hf).1
  rw [show a % 32 = a by omega] at this
  rw [this]; rfl

/-- a page of one word, a node whose first slot has its key -/
def pw1 (n p : Nat) (v : Int) : SC := { SC.new n p with pa := AC.zero.take 0, pw := up (SC.new n p).pw 0 (pageWords 1 fun _ => v) }
def pw2 (n p : Nat) (v : Int) : SC := { pw1 n p v with na := AC.zero.take 0, nk := up (SC.new n p).nk 0 (nodeKeys 1 ⟨3, 0, 0, 0, 0⟩) }

set_option maxRecDepth 100000 in
set_option maxHeartbeats 4000000 in
theorem cacheRoots_walk (addr : Int) (first2 : Bool) (ha : 0 ≤ addr ∧ addr < 4294967296) (w : World) : Calls Tryd.prog 10 #[.int .u32 addr, .bool first2] w (TrueBelow w) := by
  obtain ⟨ha0, ha1⟩ := ha
  obtain ⟨D, hD⟩ : ∃ D, D = pw2 1 2 1 := ⟨_, rfl⟩
  have FK := Lib.hid (fun (S : SA) (cb : Nat) (n : Int) (X : Nat → Prop) (W : World) (hn : n ≤ 1000) (h : Gk w S cb D 8 n X W) => gk_find ⟨2, 0, 0, 0, 1⟩ (addr % 32) ⟨0, addr % 32, false, 0⟩ h (by omega) (by omega) hn (by rw [hD]; exact way_at (pw2 1 2 1) ⟨2, 0, 0, 0, 1⟩ (addr % 32) (by omega) (by omega) (by kernel_rfl)))
  have FR1 := Lib.hid (fun (S : SA) (cb : Nat) (n : Int) (X : Nat → Prop) (W : World) (hn : n ≤ 1000) (h : Gk w S cb D 8 n X W) => gk_find ⟨2, 0, 0, 1, 1⟩ (addr % 32) ⟨0, addr % 32, true, 0⟩ h (by omega) (by omega) hn (by rw [hD, way_at (pw2 1 2 1) ⟨2, 0, 0, 1, 1⟩ (addr % 32) (by omega) (by omega) (by kernel_rfl), show (wayF (pw2 1 2 1) ⟨2, 0, 0, 1, 1⟩ 0).ro = true by kernel_rfl]; rfl))
  have FP := Lib.hid (fun (S : SA) (cb : Nat) (n : Int) (X : Nat → Prop) (W : World) (hn : n ≤ 1000) (h : Gk w S cb D 8 n X W) => gk_find ⟨3, 0, 0, 0, 0⟩ (addr % 32) ⟨0, addr % 32, false, 0⟩ h (by omega) (by omega) hn (by rw [hD]; exact way_at (pw2 1 2 1) ⟨3, 0, 0, 0, 0⟩ (addr % 32) (by omega) (by omega) (by kernel_rfl)))
  have HD := Lib.hid hD
  have F10 := Lib.hid (fun W => first10 W)
  have SN := Lib.hid (show ∀ W, Calls Tryd.prog 18 #[.int .i64 1, .int .i64 2] W (NewSto W 1 2) from fun W => store_new 1 2 W (by omega) (by omega) (by omega) (by omega))
  have CN := Lib.hid (show ∀ W, Calls Tryd.prog 39 #[.int .i64 8] W (NewCa W 8) from fun W => cache_new 8 W (by omega) (by omega))
  clear hD
  go_enter Tryd.func10, Tryd.ntmps10
  go_wp2_with (fail)
  go_at_call 38
  refine (F10.out _).mono ?_
  rintro e w1 ⟨rfl, hb1⟩
  have HB1 := Lib.hid hb1
  clear hb1
  go_wp2_with (fail)
  go_at_call 18
  refine (SN.out _).mono ?_
  rintro e w2 ⟨S, rfl, hs, hx, hb2⟩
  have L2 := Lib.hid (show LwS w S (SC.new 1 2) w2 from ⟨hs, HB1.out.trans (hb2.mono HB1.out.size), fun x h => Nat.le_trans HB1.out.size (hx x h)⟩)
  clear hs hx hb2 HB1
  go_wp2_with (fail)
  go_at_call 39
  refine (CN.out _).mono ?_
  rintro e w3 ⟨cb, rfl, hcb, hc, hb3⟩
  have L3 := Lib.hid (Lk.start L2.out hc hcb hb3 (by omega) (by omega))
  clear hcb hc hb3 L2
  have q1 := L3.out.sto.p1
  have lp := L3.out.sto.lt S.p.l (.inr (.inr (NA.hl _)))
  have L3b := Lib.hid (L3.out.alloc (.cells #[.int .u32 1] 34))
  have RO := Lib.hid (Row.one w3 (.int .u32 1) 34)
  go_wp2_with (fail)
  go_at_call 19
  refine (pmake S.p 2 AC.zero (SC.new 1 2).pw 0 1 1 ⟨w3.heap.size, 0, none⟩ (fun _ => 1) _ L3b.out.sto.pg (by omega) (by omega) (fun j h => absurd h (Nat.not_lt_zero j)) rfl rfl (by omega) (Nat.ne_of_gt lp) RO.out.lt (row_cell1 RO.out)).mono ?_
  rintro e w4 ⟨rfl, hpg, ho⟩
  have L4 := Lib.hid (show Lk w S cb (pw1 1 2 1) 8 0 [] (fun _ => False) w4 from (L3b.out.page hpg ho).1)
  clear hpg ho q1 lp L3b RO L3
  have z1 := L4.out.sto.p0
  have PK := Lib.hid (show Calls Tryd.prog 20 #[.pointer (some ⟨S.s, 0, none⟩), .int .i64 0] w4.drew (KeyBelow w4.drew ⟨3, 0, 0, 0, 0⟩) from page_key S (pw1 1 2 1) 0 w4.drew L4.out.drew.sto (by show 0 < 2; omega) rfl)
  go_wp2_with (fail)
  go_region_held3 (fun W => W.cell? ⟨S.s, 0, none⟩ = some (.pointer (some ⟨S.n.b, 0, none⟩)))
    (first | exact z1 | go_keep)
    ((first | (go_at_call 20; refine (PK.out).mono ?_; rintro e w5 ⟨rfl, hb5⟩; have M5 := Lib.hid (L4.out.drew.below hb5); have z1 := M5.out.sto.p0; have l5 := Lib.hid (M5.out.sto.lt S.n.l (.inr (.inl (NA.hl _)))); clear hb5) | (go_at_call 21; refine (nmake1 S.n 1 AC.zero (SC.new 1 2).nk 0 w5.heap.size ⟨3, 0, 0, 0, 0⟩ _ (M5.out.alloc (.cells #[.int .i64 3, .int .i64 0, .int .i64 0, .int .i64 0, .int .u32 0] 36)).sto.no (by omega) (by omega) (fun j h => absurd h (Nat.not_lt_zero j)) rfl rfl (ok_page 0 (by omega) (by omega)) ((⟨3, 0, 0, 0, 0⟩ : K).box w5 36) (Nat.ne_of_gt l5.out)).mono ?_; rintro e w6 ⟨rfl, hno, ho⟩; have M6 := Lib.hid (show Lk w S cb (pw2 1 2 1) 8 0 [] (fun _ => False) w6 from ((M5.out.alloc (.cells #[.int .i64 3, .int .i64 0, .int .i64 0, .int .i64 0, .int .u32 0] 36)).make hno ho).1); have z1 := M6.out.sto.p0; clear hno ho)))
  clear PK L4 M5 l5 z1
  have NK := Lib.hid (show Calls Tryd.prog 22 #[.pointer (some ⟨S.s, 0, none⟩), .int .i64 0, .int .i64 1] w6 (KeyBelow w6 ⟨2, 0, 0, 0, 1⟩) from node_key S (pw2 1 2 1) 0 1 w6 M6.out.sto (by show 0 < 1; omega) rfl (by omega) (by omega))
  go_wp2_with (fail)
  go_at_call 22
  refine (NK.out).mono ?_
  rintro e w7 ⟨rfl, hb7⟩
  obtain ⟨w8, hw8⟩ : ∃ w8, w8 = (w7.alloc (.cells #[.int .i64 2, .int .i64 0, .int .i64 0, .int .i64 0, .int .u32 1] 36)).alloc (.cells #[.int .i64 2, .int .i64 0, .int .i64 0, .int .i64 1, .int .u32 1] 36) := ⟨_, rfl⟩
  have M8 : Hid (Lk w S cb (pw2 1 2 1) 8 0 [] (fun x => (False ∨ x = w7.heap.size) ∨ x = w7.heap.size + 1) w8) := by
    rw [hw8]
    exact ((M6.out.below hb7).new _).box ((Below.refl _ _).alloc (Nat.le_refl _) _) (by simp) (by simp)
  have RK := Lib.hid (show Row w8 w7.heap.size 5 (⟨2, 0, 0, 0, 1⟩ : K).cell by rw [hw8]; exact ((⟨2, 0, 0, 0, 1⟩ : K).box w7 36).alloc _)
  have RR := Lib.hid (show Row w8 (w7.heap.size + 1) 5 (⟨2, 0, 0, 1, 1⟩ : K).cell by
    rw [hw8]
    have := (⟨2, 0, 0, 1, 1⟩ : K).box (w7.alloc (.cells #[.int .i64 2, .int .i64 0, .int .i64 0, .int .i64 0, .int .u32 1] 36)) 36
    rwa [World.size_alloc] at this)
  have HW8 := Lib.hid hw8
  clear hb7 NK M6 hw8
  go_wp2_with (fail)
  rw [← HW8.out]
  have PK := Lib.hid (show Calls Tryd.prog 20 #[.pointer (some ⟨S.s, 0, none⟩), .int .i64 0] w8 (KeyBelow w8 ⟨3, 0, 0, 0, 0⟩) from page_key S (pw2 1 2 1) 0 w8 M8.out.sto (by show 0 < 2; omega) rfl)
  go_at_call 20
  refine (PK.out).mono ?_
  rintro e w9 ⟨rfl, hb9⟩
  obtain ⟨w10, hw10⟩ : ∃ w10, w10 = w9.alloc (.cells #[.int .i64 3, .int .i64 0, .int .i64 0, .int .i64 0, .int .u32 0] 36) := ⟨_, rfl⟩
  have G10 : Hid (Gk w S cb D 8 0 (fun x => ((False ∨ x = w7.heap.size) ∨ x = w7.heap.size + 1) ∨ x = w9.heap.size) w10) := by
    rw [hw10, HD.out]
    exact ⟨0, [], by omega, by omega, Good.nil _, (M8.out.below hb9).new _⟩
  have RK9 := Lib.hid (RK.out.below hb9)
  have RR9 := Lib.hid (RR.out.below hb9)
  have RK := Lib.hid (show Row w10 w7.heap.size 5 (⟨2, 0, 0, 0, 1⟩ : K).cell by rw [hw10]; exact (RK.out.below hb9).alloc _)
  have RR := Lib.hid (show Row w10 (w7.heap.size + 1) 5 (⟨2, 0, 0, 1, 1⟩ : K).cell by rw [hw10]; exact (RR.out.below hb9).alloc _)
  have RP := Lib.hid (show Row w10 w9.heap.size 5 (⟨3, 0, 0, 0, 0⟩ : K).cell by rw [hw10]; exact (⟨3, 0, 0, 0, 0⟩ : K).box w9 36)
  have HW10 := Lib.hid hw10
  clear hb9 hw10 PK M8
  cases first2 with
  | true =>
    obtain ⟨c0, c1, c2, c3, c4⟩ := K.facts RR9.out
    have l9 := RR9.out.lt
    go_wp2_with (fail)
    rw [← HW10.out]
    go_at_call 40
    refine (FR1.out S cb 0 _ _ (by omega) G10.out).mono ?_
    rintro e v0 ⟨he, hg0, hk0⟩
    obtain rfl : e = .returned (.tuple #[.agg #[.int .i64 0, .int .i64 (addr % 32), .bool true], .int .i64 0]) := he
    clear c0 c1 c2 c3 c4
    have RK0 := Lib.hid ((RK.out.of_block (w' := v0) (hk0.2 _ (.inl (.inl (.inr rfl))))))
    have RR0 := Lib.hid ((RR.out.of_block (w' := v0) (hk0.2 _ (.inl (.inr rfl)))))
    have RP0 := Lib.hid ((RP.out.of_block (w' := v0) (hk0.2 _ (.inr rfl))))
    have G0x := Lib.hid hg0
    clear hg0 hk0
    obtain ⟨c0, c1, c2, c3, c4⟩ := K.facts RK0.out
    go_wp2_with (fail)
    go_at_call 40
    refine (FK.out S cb 1 _ _ (by omega) G0x.out).mono ?_
    rintro e v1 ⟨he, hg1, hk1⟩
    obtain rfl : e = .returned (.tuple #[.agg #[.int .i64 0, .int .i64 (addr % 32), .bool false], .int .i64 0]) := he
    clear c0 c1 c2 c3 c4
    have RK01 := Lib.hid ((RK0.out.of_block (w' := v1) (hk1.2 _ (.inl (.inl (.inr rfl))))).alloc (.cells #[.int .i64 0, .int .i64 (addr % 32), .bool false] 41))
    have RR01 := Lib.hid ((RR0.out.of_block (w' := v1) (hk1.2 _ (.inl (.inr rfl)))).alloc (.cells #[.int .i64 0, .int .i64 (addr % 32), .bool false] 41))
    have RP01 := Lib.hid ((RP0.out.of_block (w' := v1) (hk1.2 _ (.inr rfl))).alloc (.cells #[.int .i64 0, .int .i64 (addr % 32), .bool false] 41))
    have RB1 := Lib.hid (pl_made v1 0 (addr % 32) false)
    have G1x := Lib.hid (hg1.new (.cells #[.int .i64 0, .int .i64 (addr % 32), .bool false] 41))
    clear hg1 hk1
    obtain ⟨c0, c1, c2, c3, c4⟩ := K.facts RR01.out
    go_wp2_with (fail)
    go_at_call 40
    refine (FR1.out S cb 2 _ _ (by omega) G1x.out).mono ?_
    rintro e v2 ⟨he, hg2, hk2⟩
    obtain rfl : e = .returned (.tuple #[.agg #[.int .i64 0, .int .i64 (addr % 32), .bool true], .int .i64 0]) := he
    clear c0 c1 c2 c3 c4
    have RK012 := Lib.hid ((RK01.out.of_block (w' := v2) (hk2.2 _ (.inl (.inl (.inl (.inr rfl)))))).alloc (.cells #[.int .i64 0, .int .i64 (addr % 32), .bool true] 41))
    have RR012 := Lib.hid ((RR01.out.of_block (w' := v2) (hk2.2 _ (.inl (.inl (.inr rfl))))).alloc (.cells #[.int .i64 0, .int .i64 (addr % 32), .bool true] 41))
    have RP012 := Lib.hid ((RP01.out.of_block (w' := v2) (hk2.2 _ (.inl (.inr rfl)))).alloc (.cells #[.int .i64 0, .int .i64 (addr % 32), .bool true] 41))
    have RB12 := Lib.hid ((RB1.out.of_block (w' := v2) (hk2.2 _ (.inr rfl))).alloc (.cells #[.int .i64 0, .int .i64 (addr % 32), .bool true] 41))
    have RB2 := Lib.hid (pl_made v2 0 (addr % 32) true)
    have G2x := Lib.hid (hg2.new (.cells #[.int .i64 0, .int .i64 (addr % 32), .bool true] 41))
    clear hg2 hk2
    obtain ⟨c0, c1, c2, c3, c4⟩ := K.facts RP012.out
    go_wp2_with (fail)
    go_at_call 40
    refine (FP.out S cb 3 _ _ (by omega) G2x.out).mono ?_
    rintro e v3 ⟨he, hg3, hk3⟩
    obtain rfl : e = .returned (.tuple #[.agg #[.int .i64 0, .int .i64 (addr % 32), .bool false], .int .i64 0]) := he
    clear c0 c1 c2 c3 c4
    have RK0123 := Lib.hid ((RK012.out.of_block (w' := v3) (hk3.2 _ (.inl (.inl (.inl (.inl (.inr rfl))))))).alloc (.cells #[.int .i64 0, .int .i64 (addr % 32), .bool false] 41))
    have RR0123 := Lib.hid ((RR012.out.of_block (w' := v3) (hk3.2 _ (.inl (.inl (.inl (.inr rfl)))))).alloc (.cells #[.int .i64 0, .int .i64 (addr % 32), .bool false] 41))
    have RP0123 := Lib.hid ((RP012.out.of_block (w' := v3) (hk3.2 _ (.inl (.inl (.inr rfl))))).alloc (.cells #[.int .i64 0, .int .i64 (addr % 32), .bool false] 41))
    have RB123 := Lib.hid ((RB12.out.of_block (w' := v3) (hk3.2 _ (.inl (.inr rfl)))).alloc (.cells #[.int .i64 0, .int .i64 (addr % 32), .bool false] 41))
    have RB23 := Lib.hid ((RB2.out.of_block (w' := v3) (hk3.2 _ (.inr rfl))).alloc (.cells #[.int .i64 0, .int .i64 (addr % 32), .bool false] 41))
    have RB3 := Lib.hid (pl_made v3 0 (addr % 32) false)
    have G3x := Lib.hid (hg3.new (.cells #[.int .i64 0, .int .i64 (addr % 32), .bool false] 41))
    clear hg3 hk3
    obtain ⟨b00, b01, b02, -, -, -⟩ := pl_facts RB123.out
    obtain ⟨b10, b11, b12, -, -, -⟩ := pl_facts RB23.out
    obtain ⟨b20, b21, b22, -, -, -⟩ := pl_facts RB3.out
    go_wp2
    go_ret
    exact ⟨rfl, G3x.out.bel⟩
  | false =>
    obtain ⟨c0, c1, c2, c3, c4⟩ := K.facts RK9.out
    have l9 := RK9.out.lt
    go_wp2_with (fail)
    rw [← HW10.out]
    go_at_call 40
    refine (FK.out S cb 0 _ _ (by omega) G10.out).mono ?_
    rintro e v0 ⟨he, hg0, hk0⟩
    obtain rfl : e = .returned (.tuple #[.agg #[.int .i64 0, .int .i64 (addr % 32), .bool false], .int .i64 0]) := he
    clear c0 c1 c2 c3 c4
    have RK0 := Lib.hid ((RK.out.of_block (w' := v0) (hk0.2 _ (.inl (.inl (.inr rfl))))).alloc (.cells #[.int .i64 0, .int .i64 (addr % 32), .bool false] 41))
    have RR0 := Lib.hid ((RR.out.of_block (w' := v0) (hk0.2 _ (.inl (.inr rfl)))).alloc (.cells #[.int .i64 0, .int .i64 (addr % 32), .bool false] 41))
    have RP0 := Lib.hid ((RP.out.of_block (w' := v0) (hk0.2 _ (.inr rfl))).alloc (.cells #[.int .i64 0, .int .i64 (addr % 32), .bool false] 41))
    have RB0 := Lib.hid (pl_made v0 0 (addr % 32) false)
    have G0x := Lib.hid (hg0.new (.cells #[.int .i64 0, .int .i64 (addr % 32), .bool false] 41))
    clear hg0 hk0
    obtain ⟨c0, c1, c2, c3, c4⟩ := K.facts RR0.out
    go_wp2_with (fail)
    go_at_call 40
    refine (FR1.out S cb 1 _ _ (by omega) G0x.out).mono ?_
    rintro e v1 ⟨he, hg1, hk1⟩
    obtain rfl : e = .returned (.tuple #[.agg #[.int .i64 0, .int .i64 (addr % 32), .bool true], .int .i64 0]) := he
    clear c0 c1 c2 c3 c4
    have RK01 := Lib.hid ((RK0.out.of_block (w' := v1) (hk1.2 _ (.inl (.inl (.inl (.inr rfl)))))).alloc (.cells #[.int .i64 0, .int .i64 (addr % 32), .bool true] 41))
    have RR01 := Lib.hid ((RR0.out.of_block (w' := v1) (hk1.2 _ (.inl (.inl (.inr rfl))))).alloc (.cells #[.int .i64 0, .int .i64 (addr % 32), .bool true] 41))
    have RP01 := Lib.hid ((RP0.out.of_block (w' := v1) (hk1.2 _ (.inl (.inr rfl)))).alloc (.cells #[.int .i64 0, .int .i64 (addr % 32), .bool true] 41))
    have RB01 := Lib.hid ((RB0.out.of_block (w' := v1) (hk1.2 _ (.inr rfl))).alloc (.cells #[.int .i64 0, .int .i64 (addr % 32), .bool true] 41))
    have RB1 := Lib.hid (pl_made v1 0 (addr % 32) true)
    have G1x := Lib.hid (hg1.new (.cells #[.int .i64 0, .int .i64 (addr % 32), .bool true] 41))
    clear hg1 hk1
    obtain ⟨c0, c1, c2, c3, c4⟩ := K.facts RP01.out
    go_wp2_with (fail)
    go_at_call 40
    refine (FP.out S cb 2 _ _ (by omega) G1x.out).mono ?_
    rintro e v2 ⟨he, hg2, hk2⟩
    obtain rfl : e = .returned (.tuple #[.agg #[.int .i64 0, .int .i64 (addr % 32), .bool false], .int .i64 0]) := he
    clear c0 c1 c2 c3 c4
    have RK012 := Lib.hid ((RK01.out.of_block (w' := v2) (hk2.2 _ (.inl (.inl (.inl (.inl (.inr rfl))))))).alloc (.cells #[.int .i64 0, .int .i64 (addr % 32), .bool false] 41))
    have RR012 := Lib.hid ((RR01.out.of_block (w' := v2) (hk2.2 _ (.inl (.inl (.inl (.inr rfl)))))).alloc (.cells #[.int .i64 0, .int .i64 (addr % 32), .bool false] 41))
    have RP012 := Lib.hid ((RP01.out.of_block (w' := v2) (hk2.2 _ (.inl (.inl (.inr rfl))))).alloc (.cells #[.int .i64 0, .int .i64 (addr % 32), .bool false] 41))
    have RB012 := Lib.hid ((RB01.out.of_block (w' := v2) (hk2.2 _ (.inl (.inr rfl)))).alloc (.cells #[.int .i64 0, .int .i64 (addr % 32), .bool false] 41))
    have RB12 := Lib.hid ((RB1.out.of_block (w' := v2) (hk2.2 _ (.inr rfl))).alloc (.cells #[.int .i64 0, .int .i64 (addr % 32), .bool false] 41))
    have RB2 := Lib.hid (pl_made v2 0 (addr % 32) false)
    have G2x := Lib.hid (hg2.new (.cells #[.int .i64 0, .int .i64 (addr % 32), .bool false] 41))
    clear hg2 hk2
    obtain ⟨b00, b01, b02, -, -, -⟩ := pl_facts RB012.out
    obtain ⟨b10, b11, b12, -, -, -⟩ := pl_facts RB12.out
    obtain ⟨b20, b21, b22, -, -, -⟩ := pl_facts RB2.out
    go_wp2
    go_ret
    exact ⟨rfl, G2x.out.bel⟩
end Go.Proofs.YtdlemkmkheokkaaDoor
