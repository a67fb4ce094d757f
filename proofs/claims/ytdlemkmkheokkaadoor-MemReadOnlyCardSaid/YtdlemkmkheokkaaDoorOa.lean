/- turnkeylaw11.MemStale answers true for every input: the walk. -/
import Derived.Test.YtdlemkmkheokkaaDoorNd
namespace Go.Proofs.YtdlemkmkheokkaaDoor
open Go.RowKit

/-- the first page is made, of no words -/
def pg1 (n p : Nat) : SC := { SC.new n p with pa := AC.zero.take 0, pw := up (SC.new n p).pw 0 (pageWords 0 fun _ => 0) }
/-- and the first node, whose first slot has its key -/
def pn1 (n p : Nat) : SC := { pg1 n p with na := AC.zero.take 0, nk := up (SC.new n p).nk 0 (nodeKeys 1 ⟨3, 0, 0, 0, 0⟩) }
def kn1 : K := ⟨2, 0, 0, 0, 1⟩
/-- the fault of a way in the first page -/
theorem way_fault (C : SC) (k : K) (a : Int) (h0 : 0 ≤ a) (h1 : a < 32) (hf : (wayF C k 0).fault ≠ 0) : (wayF C k a).fault = (wayF C k 0).fault :=
  ((way_page C k 0 a (by omega) (by omega)).2 hf).1
theorem way_first (C : SC) (k : K) (a : Int) (h0 : 0 ≤ a) (h1 : a < 32) (hf : (wayF C k 0).fault = 0) : wayF C k a = ⟨(wayF C k 0).page, a, (wayF C k 0).ro, 0, (wayF C k 0).nodes⟩ := by
  have := ((way_page C k 0 a (by omega) (by omega)).1 hf).1
  rwa [show a % 32 = a by omega] at this
theorem loadV_fault (D : SC) (R : WR) (h : R.fault ≠ 0) : loadV D R = 0 := by unfold loadV; rw [if_neg h]
theorem saveC_fault (R : WR) (h : R.fault ≠ 0) : saveC R = R.fault := by unfold saveC; rw [if_neg h]
theorem saveD_fault (D : SC) (R : WR) (v : Int) (h : R.fault ≠ 0) : saveD D R v = D := by unfold saveD; rw [if_neg (fun e => h e.1)]

section
variable {w0 : World} {S : SA} {cb mb : Nat} {D : SC} {size n : Int} {X : Nat → Prop} {W : World}
/-- a load that faults -/
theorem load_fault (k : K) (a f : Int) (hn : n ≤ 1000) (ha0 : 0 ≤ a) (ha1 : a < 4294967296) (hf : (wayF D k a).fault = f) (h2 : f ≠ 0) (h : Mm w0 S cb mb D size n X W) :
    Calls Tryd.prog 32 #[.pointer (some ⟨mb, 0, none⟩), k.v, .int .u32 a] W fun e W' => e = .returned (.tuple #[.int .u32 0, .int .i64 f]) ∧ Mm w0 S cb mb D size (n + 1) X W' ∧ Keep X W W' := by
  refine (mem_load k a h ha0 ha1 hn).mono ?_
  rintro e W' ⟨rfl, h1, h3⟩
  rw [loadV_fault D _ (by rw [hf]; exact h2), hf]
  exact ⟨rfl, h1, h3⟩
theorem save_fault (k : K) (a f v : Int) (hn : n ≤ 1000) (ha0 : 0 ≤ a) (ha1 : a < 4294967296) (hf : (wayF D k a).fault = f) (h2 : f ≠ 0) (h : Mm w0 S cb mb D size n X W) :
    Calls Tryd.prog 29 #[.pointer (some ⟨mb, 0, none⟩), k.v, .int .u32 a, .int .u32 v] W fun e W' => e = .returned (.int .i64 f) ∧ Mm w0 S cb mb D size (n + 1) X W' ∧ Keep X W W' := by
  refine (mem_save k a v h ha0 ha1 hn).mono ?_
  rintro e W' ⟨rfl, h1, h3⟩
  rw [saveC_fault _ (by rw [hf]; exact h2), hf]
  rw [saveD_fault _ _ _ (by rw [hf]; exact h2)] at h1
  exact ⟨rfl, h1, h3⟩
end

set_option maxRecDepth 100000 in
set_option maxHeartbeats 4000000 in
theorem memStale_walk (att wv : Int) (node : Bool) (_hw : 0 ≤ wv ∧ wv < 4294967296) (w : World) : Calls Tryd.prog 6 #[.int .i64 att, .int .u32 wv, .bool node] w (TrueBelow w) := by
  obtain ⟨a, ha, ha0, ha1⟩ : ∃ a : Int, numB att 32 = a ∧ 0 ≤ a ∧ a < 32 := ⟨_, rfl, (numB_range att 32 (by omega)).1, (numB_range att 32 (by omega)).2⟩
  have F9 := Lib.hid (fun W => first11 W)
  have NB := Lib.hid (fun W => ha ▸ number_any att 32 W (by omega) (by omega))
  have MN := Lib.hid (show ∀ W, Calls Tryd.prog 28 #[.int .i64 2, .int .i64 2, .int .i64 4] W (NewMe W 2 2 4) from fun W => mem_new 2 2 4 W (by omega) (by omega) (by omega) (by omega) (by omega) (by omega))
  have SV := Lib.hid (fun (S : SA) (cb mb : Nat) (v : Int) (X : Nat → Prop) (W : World) (h : Mm w S cb mb (pn1 2 2) 4 0 X W) => show Calls Tryd.prog 29 #[.pointer (some ⟨mb, 0, none⟩), kn1.v, .int .u32 a, .int .u32 v] W (fun e W' => e = .returned (.int .i64 0) ∧ (∃ pw, Mm w S cb mb { pn1 2 2 with pw := pw } 4 1 X W') ∧ Keep X W W') from by
    refine (mem_save kn1 a v h ha0 (by omega) (by omega)).mono ?_
    rw [way_first (pn1 2 2) kn1 a ha0 ha1 (by kernel_rfl), show (wayF (pn1 2 2) kn1 0).page = 0 by kernel_rfl, show (wayF (pn1 2 2) kn1 0).ro = false by kernel_rfl]
    rintro e W' ⟨rfl, h1, h2⟩
    exact ⟨rfl, ⟨_, h1⟩, h2⟩)
  clear ha
  go_enter Tryd.func6, Tryd.ntmps6
  go_wp2_with (fail)
  go_at_call 27
  refine (F9.out _).mono ?_
  rintro e w1 ⟨rfl, hb1⟩
  have HB1 := Lib.hid hb1
  clear hb1
  go_wp2_with (fail)
  go_at_call 26
  refine (NB.out _).mono ?_
  rintro e w' ⟨rfl, rfl⟩
  go_wp2_with (fail)
  go_at_call 28
  refine (MN.out _).mono ?_
  rintro e w2 ⟨S, cb, mb, rfl, hmb, hm⟩
  have M2 := Lib.hid (hm.rebase HB1.out)
  have q0 := M2.out.mm.q0
  have q1 := M2.out.mm.sto.p1
  clear hm hmb HB1
  go_wp2_with (fail)
  go_at_call 19
  refine (pmake0 S.p 2 AC.zero (SC.new 2 2).pw 0 w2 M2.out.mm.sto.pg (by omega) (by omega) (fun j h => absurd h (Nat.not_lt_zero j)) rfl rfl).mono ?_
  rintro e w3 ⟨rfl, hpg, ho⟩
  have M3 := Lib.hid (show Me0 w S cb mb (pg1 2 2) 4 0 (fun x => x = mb) w3 from (M2.out.page hpg ho).1)
  clear hpg ho M2 q0 q1
  have z0 := M3.out.mm.q0
  have z1 := M3.out.mm.sto.p0
  have PK := Lib.hid (show Calls Tryd.prog 20 #[.pointer (some ⟨S.s, 0, none⟩), .int .i64 0] w3.drew (KeyBelow w3.drew ⟨3, 0, 0, 0, 0⟩) from page_key S (pg1 2 2) 0 w3.drew (M3.out.mm.sto.below ((Below.refl _ _).drew)) (by show 0 < 2; omega) rfl)
  go_wp2_with (fail)
  go_region_held3 (fun W => W.cell? ⟨mb, 0, none⟩ = some (.pointer (some ⟨S.s, 0, none⟩)) ∧ W.cell? ⟨S.s, 0, none⟩ = some (.pointer (some ⟨S.n.b, 0, none⟩)))
    (first | exact ⟨z0, z1⟩ | go_keep)
    ((first | (go_at_call 20; refine (PK.out).mono ?_; rintro e w5 ⟨rfl, hb5⟩; have M5 := Lib.hid (M3.out.below (((Below.refl _ w3).drew).trans hb5)); have z0 := M5.out.mm.q0; have z1 := M5.out.mm.sto.p0; have l5 := Lib.hid (M5.out.mm.sto.lt S.n.l (.inr (.inl (NA.hl _)))); clear hb5) | (go_at_call 21; refine (nmake1 S.n 2 AC.zero (SC.new 2 2).nk 0 w5.heap.size ⟨3, 0, 0, 0, 0⟩ _ (M5.out.new (.cells #[.int .i64 3, .int .i64 0, .int .i64 0, .int .i64 0, .int .u32 0] 36)).mm.sto.no (by omega) (by omega) (fun j h => absurd h (Nat.not_lt_zero j)) rfl rfl (ok_page 0 (by omega) (by omega)) ((⟨3, 0, 0, 0, 0⟩ : K).box w5 36) (Nat.ne_of_gt l5.out)).mono ?_; rintro e w6 ⟨rfl, hno, ho⟩; have M6 := Lib.hid (show Me0 w S cb mb (pn1 2 2) 4 0 (fun x => x = mb) w6 from ((M5.out.new (.cells #[.int .i64 3, .int .i64 0, .int .i64 0, .int .i64 0, .int .u32 0] 36)).make hno ho).1.less (fun x hx => .inl hx) rfl); have z0 := M6.out.mm.q0; have z1 := M6.out.mm.sto.p0; clear hno ho)))
  clear PK M3 M5 l5
  have NK := Lib.hid (show Calls Tryd.prog 22 #[.pointer (some ⟨S.s, 0, none⟩), .int .i64 0, .int .i64 1] w6 (KeyBelow w6 ⟨2, 0, 0, 0, 1⟩) from node_key S (pn1 2 2) 0 1 w6 M6.out.mm.sto (by show 0 < 2; omega) rfl (by omega) (by omega))
  go_wp2_with (fail)
  go_at_call 22
  refine (NK.out).mono ?_
  rintro e w7 ⟨rfl, hb7⟩
  have M8 := Lib.hid ((M6.out.below hb7).new (.cells #[.int .i64 2, .int .i64 0, .int .i64 0, .int .i64 0, .int .u32 1] 36))
  have RK := Lib.hid (kn1.box w7 36)
  have nk := ((M6.out.below hb7).mm.hX mb rfl).1
  clear hb7 NK M6 z0 z1
  go_wp2_with (fail)
  go_at_call 29
  refine (SV.out S cb mb _ _ _ M8.out.mm).mono ?_
  rintro e w9 ⟨rfl, ⟨pw, hm9⟩, hk9⟩
  have R9 := Lib.hid (RK.out.of_block (w' := w9) (hk9.2 _ (.inr rfl)))
  obtain ⟨c0, c1, c2, c3, c4⟩ := K.facts R9.out
  have M9 := Lib.hid hm9
  clear hm9 hk9 M8 RK
  cases node with
  | true =>
    have GN := Lib.hid (mem_giveNode 0 M9.out (show 0 < 2 by omega) rfl (show (0 : Int) ≤ 0 by omega) (show (0 : Int) < 1000000 by omega))
    go_wp2_with (fail)
    go_at_call 30
    refine (GN.out).mono ?_
    rintro e w10 ⟨rfl, hm10, hk10⟩
    have R10 := Lib.hid (R9.out.of_block (w' := w10) (hk10.2 _ (.inr rfl)))
    have M10b := Lib.hid hm10
    clear hm10 hk10 c0 c1 c2 c3 c4 GN M9
    obtain ⟨c0, c1, c2, c3, c4⟩ := K.facts R10.out
    have z0 := M10b.out.mm.q0
    have z1 := M10b.out.mm.sto.p0
    go_wp2_with (fail)
    go_at_call 21
    refine (nmake0 S.n 2 _ _ 0 w10 M10b.out.mm.sto.no (by omega) (by omega) (fun j h => absurd h (Nat.not_lt_zero j)) rfl rfl).mono ?_
    rintro e w11 ⟨rfl, hno, ho⟩
    have M12 := Lib.hid (show Me0 w S cb mb { pn1 2 2 with pw := pw, na := ((pn1 2 2).na.give 0).take 0, nk := up (pn1 2 2).nk 0 (nodeKeys 0 K.zero) } 4 1 (fun x => x = mb ∨ x = w7.heap.size) w11 from (M10b.out.make hno ho).1)
    have K12 := Lib.hid (M10b.out.make hno ho).2
    clear hno ho z0 z1 c0 c1 c2 c3 c4
    have R12 := Lib.hid (R10.out.of_block (w' := w11) (K12.out.2 _ (.inr rfl)))
    obtain ⟨c0, c1, c2, c3, c4⟩ := K.facts R12.out
    have F0 : (wayF { pn1 2 2 with pw := pw, na := ((pn1 2 2).na.give 0).take 0, nk := up (pn1 2 2).nk 0 (nodeKeys 0 K.zero) } kn1 0).fault = 2 := by kernel_rfl
    have FT : (wayF { pn1 2 2 with pw := pw, na := ((pn1 2 2).na.give 0).take 0, nk := up (pn1 2 2).nk 0 (nodeKeys 0 K.zero) } kn1 a).fault = 2 := (way_fault _ kn1 a ha0 ha1 (by rw [F0]; decide)).trans F0
    clear F0
    have LD := Lib.hid (load_fault kn1 a 2 (by omega) ha0 (by omega) FT (by decide) M12.out.mm)
    have HFT := Lib.hid FT
    clear FT
    go_wp2_with (fail)
    go_at_call 32
    refine (LD.out).mono ?_
    rintro e w13 ⟨rfl, hm13, hk13⟩
    have R13 := Lib.hid (R12.out.of_block (w' := w13) (hk13.2 _ (.inr rfl)))
    have M13 := Lib.hid hm13
    clear hm13 hk13 c0 c1 c2 c3 c4 LD
    obtain ⟨c0, c1, c2, c3, c4⟩ := K.facts R13.out
    have SF := Lib.hid (fun v => save_fault kn1 a 2 v (by omega) ha0 (by omega) HFT.out (by decide) M13.out)
    go_wp2_with (fail)
    go_at_call 29
    refine (SF.out _).mono ?_
    rintro e w14 ⟨rfl, hm14, hk14⟩
    have M14 := Lib.hid hm14
    clear hm14 hk14 c0 c1 c2 c3 c4 SF
    have z0 := M14.out.q0
    have z1 := M14.out.sto.p1
    have RD := Lib.hid (show Calls Tryd.prog 33 #[.pointer (some ⟨S.p.b, 0, none⟩), .int .i64 0, .int .i64 0] w14 (fun e w' => e = .returned (.tuple #[.int .u32 (pw 0 0), .bool true]) ∧ w14 = w') from read_yes S.p 2 _ _ 0 0 w14 M14.out.sto.pg (by omega) (by omega) rfl (by omega))
    go_wp2_with (fail)
    go_at_call 33
    refine (RD.out).mono ?_
    rintro e w' ⟨rfl, rfl⟩
    have B14 := Lib.hid M14.out.bel
    go_wp2
    go_ret
    exact ⟨rfl, B14.out⟩
  | false =>
    have GN := Lib.hid (mem_givePage 0 M9.out (show 0 < 2 by omega) rfl (show (0 : Int) ≤ 0 by omega) (show (0 : Int) < 1000000 by omega))
    go_wp2_with (fail)
    go_at_call 31
    refine (GN.out).mono ?_
    rintro e w10 ⟨rfl, hm10, hk10⟩
    have R10x := Lib.hid (R9.out.of_block (w' := w10) (hk10.2 _ (.inr rfl)))
    have M10 := Lib.hid hm10
    clear hm10 hk10 c0 c1 c2 c3 c4 GN M9
    have z0 := M10.out.mm.q0
    have z1 := M10.out.mm.sto.p1
    have M10b := Lib.hid (M10.out.below ((Below.refl _ w10).alloc (Nat.le_refl _) (.cells #[.int .u32 7] 34)))
    have R10 := Lib.hid (R10x.out.alloc (.cells #[.int .u32 7] 34))
    have RO := Lib.hid (Row.one w10 (.int .u32 7) 34)
    have lp := M10.out.mm.sto.lt S.p.l (.inr (.inr (NA.hl _)))
    obtain ⟨c0, c1, c2, c3, c4⟩ := K.facts R10.out
    go_wp2_with (fail)
    go_at_call 19
    refine (pmake S.p 2 _ _ 0 1 1 ⟨w10.heap.size, 0, none⟩ (fun _ => 7) _ M10b.out.mm.sto.pg (by omega) (by omega) (fun j h => absurd h (Nat.not_lt_zero j)) rfl rfl (by omega) (Nat.ne_of_gt lp) RO.out.lt (row_cell1 RO.out)).mono ?_
    rintro e w11 ⟨rfl, hpg, ho⟩
    have M12 := Lib.hid (show Me0 w S cb mb { pn1 2 2 with pa := ((pn1 2 2).pa.give 0).take 0, pw := up pw 0 (pageWords 1 fun _ => 7) } 4 1 (fun x => x = mb ∨ x = w7.heap.size) w11 from (M10b.out.page hpg ho).1)
    have K12 := Lib.hid (M10b.out.page hpg ho).2
    clear hpg ho z0 z1 c0 c1 c2 c3 c4
    have R12 := Lib.hid (R10.out.of_block (w' := w11) (K12.out.2 _ (.inr rfl)))
    obtain ⟨c0, c1, c2, c3, c4⟩ := K.facts R12.out
    have F0 : (wayF { pn1 2 2 with pa := ((pn1 2 2).pa.give 0).take 0, pw := up pw 0 (pageWords 1 fun _ => 7) } kn1 0).fault = 2 := by kernel_rfl
    have FT : (wayF { pn1 2 2 with pa := ((pn1 2 2).pa.give 0).take 0, pw := up pw 0 (pageWords 1 fun _ => 7) } kn1 a).fault = 2 := (way_fault _ kn1 a ha0 ha1 (by rw [F0]; decide)).trans F0
    clear F0
    have LD := Lib.hid (load_fault kn1 a 2 (by omega) ha0 (by omega) FT (by decide) M12.out.mm)
    have HFT := Lib.hid FT
    clear FT
    go_wp2_with (fail)
    go_at_call 32
    refine (LD.out).mono ?_
    rintro e w13 ⟨rfl, hm13, hk13⟩
    have R13 := Lib.hid (R12.out.of_block (w' := w13) (hk13.2 _ (.inr rfl)))
    have M13 := Lib.hid hm13
    clear hm13 hk13 c0 c1 c2 c3 c4 LD
    obtain ⟨c0, c1, c2, c3, c4⟩ := K.facts R13.out
    have SF := Lib.hid (fun v => save_fault kn1 a 2 v (by omega) ha0 (by omega) HFT.out (by decide) M13.out)
    go_wp2_with (fail)
    go_at_call 29
    refine (SF.out _).mono ?_
    rintro e w14 ⟨rfl, hm14, hk14⟩
    have M14 := Lib.hid hm14
    clear hm14 hk14 c0 c1 c2 c3 c4 SF
    have z0 := M14.out.q0
    have z1 := M14.out.sto.p1
    have RD := Lib.hid (show Calls Tryd.prog 33 #[.pointer (some ⟨S.p.b, 0, none⟩), .int .i64 0, .int .i64 0] w14 (fun e w' => e = .returned (.tuple #[.int .u32 7, .bool true]) ∧ w14 = w') from read_yes S.p 2 _ _ 0 0 w14 M14.out.sto.pg (by omega) (by omega) rfl (by omega))
    go_wp2_with (fail)
    go_at_call 33
    refine (RD.out).mono ?_
    rintro e w' ⟨rfl, rfl⟩
    have B14 := Lib.hid M14.out.bel
    go_wp2
    go_ret
    exact ⟨rfl, B14.out⟩

end Go.Proofs.YtdlemkmkheokkaaDoor
