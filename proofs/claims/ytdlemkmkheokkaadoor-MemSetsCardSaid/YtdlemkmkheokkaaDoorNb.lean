/- Contracts of mem's Load, Save, GiveNode, GivePage. -/
import Derived.Test.YtdlemkmkheokkaaDoorNa
namespace Go.Proofs.YtdlemkmkheokkaaDoor
open Go.RowKit

section
variable {w0 : World} {S : SA} {cb mb : Nat} {D D' : SC} {size n : Int} {X : Nat → Prop} {W W' : World}
/-- the word that is loaded -/
def loadV (D : SC) (R : WR) : Int := if R.fault = 0 then D.pw R.page.toNat R.at_.toNat else 0
def LoadM (w0 : World) (S : SA) (cb mb : Nat) (D : SC) (size n : Int) (X : Nat → Prop) (R : WR) (W : World) (e : Ending) (W' : World) : Prop :=
  e = .returned (.tuple #[.int .u32 (loadV D R), .int .i64 R.fault]) ∧ Mm w0 S cb mb D size (n + 1) X W' ∧ Keep X W W'

theorem keep_new {o : Obj} (h : Mm w0 S cb mb D size n X W) (hk : Keep (fun x => X x ∨ x = W.heap.size) (W.alloc o) W') : Keep X W W' :=
  (h.keep_below ((Below.refl _ W).alloc (Nat.le_refl _) o)).trans (hk.less fun _ hx => .inl hx)

set_option maxHeartbeats 1000000 in
theorem mem_load (k : K) (addr : Int) (h : Mm w0 S cb mb D size n X W) (ha0 : 0 ≤ addr) (ha1 : addr < 4294967296) (hn : n ≤ 1000) :
    Calls Tryd.prog 32 #[.pointer (some ⟨mb, 0, none⟩), k.v, .int .u32 addr] W (LoadM w0 S cb mb D size n X (wayF D k addr) W) := by
  have M1 := h.new (.cells #[.int .i64 k.kind, .int .i64 k.id, .int .i64 k.ver, .int .i64 k.rights, .int .u32 k.data] 36)
  have FM := mem_find k addr M1 ha0 ha1 hn
  obtain ⟨w1, w2⟩ := way_page D k addr addr ha0 rfl
  obtain ⟨⟨pg, at_, ro, ft, ns⟩, hP⟩ : ∃ P, P = wayF D k addr := ⟨_, rfl⟩
  rw [← hP] at FM w1 w2 ⊢
  have H := Lib.hid h
  by_cases hf : ft = 0
  · subst hf
    obtain ⟨_, e1, p, e2, hpc, hth⟩ := w1 rfl
    dsimp only at e1 e2
    obtain ⟨a, ha, ha32⟩ : ∃ a : Nat, addr % 32 = (a : Int) ∧ a < 32 := ⟨(addr % 32).toNat, by omega, by omega⟩
    rw [ha] at e1
    subst e1 e2
    have hv : loadV D ⟨p, a, ro, 0, ns⟩ = D.pw p a := by simp [loadV]
    have HV := Lib.hid hv
    have RD := Lib.hid (fun V (hV : Sto V S D) => read_yes S.p D.pc D.pa D.pw p a V hV.pg (by have := hV.p256; omega) hpc hth ha32)
    have HFM := Lib.hid FM
    clear w1 w2 hP FM M1 h ha hv
    go_enter Tryd.func32, Tryd.ntmps32
    go_wp2_with (fail)
    go_at_call 64
    refine (HFM.out).mono ?_
    rintro e w5 ⟨he, hm5, hk5⟩
    obtain rfl : e = .returned (.tuple #[.agg #[.int .i64 p, .int .i64 a, .bool ro], .int .i64 0]) := he
    obtain ⟨wp, hwp⟩ : ∃ wp, wp = w5.alloc (.cells #[.int .i64 p, .int .i64 a, .bool ro] 41) := ⟨_, rfl⟩
    have M6 := hm5.below ((Below.refl _ w5).alloc (Nat.le_refl _) (.cells #[.int .i64 p, .int .i64 a, .bool ro] 41))
    have K6 := hm5.keep_below ((Below.refl _ w5).alloc (Nat.le_refl _) (.cells #[.int .i64 p, .int .i64 a, .bool ro] 41))
    have PX := pl_made w5 p a ro
    rw [← hwp] at M6 K6 PX
    obtain ⟨x0, x1, x2, -, -, -⟩ := pl_facts PX
    have z0 := M6.q0
    have z1 := M6.sto.p1
    have RD6 := Lib.hid (RD.out _ (M6.sto.below ((Below.refl _ wp).drew)))
    have HK := Lib.hid (keep_new H.out (hk5.trans K6))
    have HM6 := Lib.hid M6
    have HWP := Lib.hid hwp
    clear hm5 hk5 M6 K6 PX hwp RD
    go_wp2_with (fail)
    rw [← HWP.out]
    go_region_held3 (fun V => V.cell? ⟨mb, 0, none⟩ = some (.pointer (some ⟨S.s, 0, none⟩)) ∧ V.cell? ⟨S.s, 1, none⟩ = some (.pointer (some ⟨S.p.b, 0, none⟩)) ∧ V.cell? ⟨w5.heap.size, 0, none⟩ = some (.int .i64 p) ∧ V.cell? ⟨w5.heap.size, 1, none⟩ = some (.int .i64 a))
      (first | exact ⟨z0, z1, x0, x1⟩ | go_keep)
      ((go_at_call 33; refine (RD6.out).mono ?_; rintro e w' ⟨rfl, rfl⟩))
    go_wp2
    go_ret2
    refine ⟨by rw [HV.out]; rfl, (HM6.out.below ((Below.refl _ wp).drew)).less (fun x hx => .inl hx) H.out.xm, HK.out⟩
  · obtain ⟨_, e1, e2, e3⟩ := w2 hf
    dsimp only at e1 e2 e3
    subst e1 e2 e3
    have hv : loadV D ⟨0, 0, false, ft, ns⟩ = 0 := by simp only [loadV]; rw [if_neg hf]
    have HV := Lib.hid hv
    have HFM := Lib.hid FM
    have hfb : (ft != 0) = true := by simpa using hf
    clear w1 w2 hP FM M1 h hv hf
    go_enter Tryd.func32, Tryd.ntmps32
    go_wp2_with (fail)
    go_at_call 64
    refine (HFM.out).mono ?_
    rintro e w5 ⟨he, hm5, hk5⟩
    obtain rfl : e = .returned (.tuple #[.agg #[.int .i64 0, .int .i64 0, .bool false], .int .i64 ft]) := he
    have M6 := Lib.hid (hm5.below ((Below.refl _ w5).alloc (Nat.le_refl _) (.cells #[.int .i64 0, .int .i64 0, .bool false] 41)))
    have HK := Lib.hid (keep_new H.out (hk5.trans (hm5.keep_below ((Below.refl _ w5).alloc (Nat.le_refl _) (.cells #[.int .i64 0, .int .i64 0, .bool false] 41)))))
    clear hm5 hk5
    go_wp2
    go_ret2
    exact ⟨by rw [HV.out]; rfl, M6.out.less (fun x hx => .inl hx) H.out.xm, HK.out⟩

/-- what a store answers, and what is there behind it -/
def saveC (R : WR) : Int := if R.fault = 0 then (if R.ro = true then 4 else 0) else R.fault
def saveD (D : SC) (R : WR) (v : Int) : SC := if R.fault = 0 ∧ R.ro = false then { D with pw := up2 D.pw R.page.toNat R.at_.toNat v } else D
def SaveM (w0 : World) (S : SA) (cb mb : Nat) (D : SC) (size n : Int) (X : Nat → Prop) (R : WR) (v : Int) (W : World) (e : Ending) (W' : World) : Prop :=
  e = .returned (.int .i64 (saveC R)) ∧ Mm w0 S cb mb (saveD D R v) size (n + 1) X W' ∧ Keep X W W'
set_option maxHeartbeats 1000000 in
theorem mem_save (k : K) (addr v : Int) (h : Mm w0 S cb mb D size n X W) (ha0 : 0 ≤ addr) (ha1 : addr < 4294967296) (hn : n ≤ 1000) :
    Calls Tryd.prog 29 #[.pointer (some ⟨mb, 0, none⟩), k.v, .int .u32 addr, .int .u32 v] W (SaveM w0 S cb mb D size n X (wayF D k addr) v W) := by
  have M1 := h.new (.cells #[.int .i64 k.kind, .int .i64 k.id, .int .i64 k.ver, .int .i64 k.rights, .int .u32 k.data] 36)
  have FM := mem_find k addr M1 ha0 ha1 hn
  obtain ⟨w1, w2⟩ := way_page D k addr addr ha0 rfl
  obtain ⟨⟨pg, at_, ro, ft, ns⟩, hP⟩ : ∃ P, P = wayF D k addr := ⟨_, rfl⟩
  rw [← hP] at FM w1 w2 ⊢
  have H := Lib.hid h
  by_cases hf : ft = 0
  · subst hf
    obtain ⟨_, e1, p, e2, hpc, hth⟩ := w1 rfl
    dsimp only at e1 e2
    obtain ⟨a, ha, ha32⟩ : ∃ a : Nat, addr % 32 = (a : Int) ∧ a < 32 := ⟨(addr % 32).toNat, by omega, by omega⟩
    rw [ha] at e1
    subst e1 e2
    have WR := Lib.hid (fun V (hV : Sto V S D) => write_yes S.p D.pc D.pa D.pw p a v V hV.pg (by have := hV.p256; omega) hpc hth ha32)
    have HFM := Lib.hid FM
    clear w1 w2 hP FM M1 h ha
    cases ro with
    | true =>
      go_enter Tryd.func29, Tryd.ntmps29
      go_wp2_with (fail)
      go_at_call 64
      refine (HFM.out).mono ?_
      rintro e w5 ⟨he, hm5, hk5⟩
      obtain rfl : e = .returned (.tuple #[.agg #[.int .i64 p, .int .i64 a, .bool true], .int .i64 0]) := he
      have M6 := Lib.hid (hm5.below ((Below.refl _ w5).alloc (Nat.le_refl _) (.cells #[.int .i64 p, .int .i64 a, .bool true] 41)))
      have HK := Lib.hid (keep_new H.out (hk5.trans (hm5.keep_below ((Below.refl _ w5).alloc (Nat.le_refl _) (.cells #[.int .i64 p, .int .i64 a, .bool true] 41)))))
      clear hm5 hk5
      go_wp2
      go_ret
      exact ⟨rfl, M6.out.less (fun x hx => .inl hx) H.out.xm, HK.out⟩
    | false =>
      go_enter Tryd.func29, Tryd.ntmps29
      go_wp2_with (fail)
      go_at_call 64
      refine (HFM.out).mono ?_
      rintro e w5 ⟨he, hm5, hk5⟩
      obtain rfl : e = .returned (.tuple #[.agg #[.int .i64 p, .int .i64 a, .bool false], .int .i64 0]) := he
      obtain ⟨wp, hwp⟩ : ∃ wp, wp = w5.alloc (.cells #[.int .i64 p, .int .i64 a, .bool false] 41) := ⟨_, rfl⟩
      have M6 := hm5.box (g := w5.heap.size) ((Below.refl _ w5).alloc (Nat.le_refl _) (.cells #[.int .i64 p, .int .i64 a, .bool false] 41)) (Nat.le_refl _) (by simp)
      have K6 := hm5.keep_below ((Below.refl _ w5).alloc (Nat.le_refl _) (.cells #[.int .i64 p, .int .i64 a, .bool false] 41))
      have PX := pl_made w5 p a false
      rw [← hwp] at M6 K6 PX
      obtain ⟨x0, x1, x2, -, -, -⟩ := pl_facts PX
      have z0 := M6.q0
      have z1 := M6.sto.p1
      have M7 := M6.below ((Below.refl _ wp).drew)
      have WR6 := Lib.hid (WR.out _ M7.sto)
      have HK := Lib.hid (keep_new H.out (hk5.trans K6))
      have HM7 := Lib.hid M7
      have HPX := Lib.hid PX
      have HWP := Lib.hid hwp
      clear hm5 hk5 M6 M7 K6 PX WR hwp
      go_wp2_with (fail)
      rw [← HWP.out]
      go_region_held3 (fun V => V.cell? ⟨mb, 0, none⟩ = some (.pointer (some ⟨S.s, 0, none⟩)) ∧ V.cell? ⟨S.s, 1, none⟩ = some (.pointer (some ⟨S.p.b, 0, none⟩)) ∧ V.cell? ⟨w5.heap.size, 0, none⟩ = some (.int .i64 p) ∧ V.cell? ⟨w5.heap.size, 1, none⟩ = some (.int .i64 a))
        (first | exact ⟨z0, z1, x0, x1⟩ | go_keep)
        ((go_at_call 65; refine (WR6.out).mono ?_; rintro e w' ⟨rfl, hpg, ho⟩; obtain ⟨M8, K8⟩ := HM7.out.wrote hpg ho; have HM8 := Lib.hid M8; have HK8 := Lib.hid K8; have z0 := M8.q0; have z1 := M8.sto.p1; obtain ⟨x0, x1, x2, -, -, -⟩ := pl_facts (HPX.out.of_block (w' := w') (K8.2 _ (.inr rfl))); clear hpg ho M8 K8))
      go_wp2
      go_ret
      exact ⟨rfl, HM8.out.less (fun x hx => .inl (.inl hx)) H.out.xm, HK.out.trans (HK8.out.less fun x hx => .inl (.inl hx))⟩
  · obtain ⟨_, e1, e2, e3⟩ := w2 hf
    dsimp only at e1 e2 e3
    subst e1 e2 e3
    have hc : saveC ⟨0, 0, false, ft, ns⟩ = ft := by simp only [saveC]; rw [if_neg hf]
    have hd : saveD D ⟨0, 0, false, ft, ns⟩ v = D := by simp only [saveD]; rw [if_neg (fun e => hf e.1)]
    have HC := Lib.hid hc
    have HD := Lib.hid hd
    have HFM := Lib.hid FM
    have hfb : (ft != 0) = true := by simpa using hf
    clear w1 w2 hP FM M1 h hc hd hf
    go_enter Tryd.func29, Tryd.ntmps29
    go_wp2_with (fail)
    go_at_call 64
    refine (HFM.out).mono ?_
    rintro e w5 ⟨he, hm5, hk5⟩
    obtain rfl : e = .returned (.tuple #[.agg #[.int .i64 0, .int .i64 0, .bool false], .int .i64 ft]) := he
    have M6 := Lib.hid (hm5.below ((Below.refl _ w5).alloc (Nat.le_refl _) (.cells #[.int .i64 0, .int .i64 0, .bool false] 41)))
    have HK := Lib.hid (keep_new H.out (hk5.trans (hm5.keep_below ((Below.refl _ w5).alloc (Nat.le_refl _) (.cells #[.int .i64 0, .int .i64 0, .bool false] 41)))))
    clear hm5 hk5
    go_wp2
    go_ret
    exact ⟨by rw [HC.out]; rfl, by rw [HD.out]; exact M6.out.less (fun x hx => .inl hx) H.out.xm, HK.out⟩

/-- given back: nothing is remembered -/
theorem Mm.cleared {hits : Int} (hh : 0 ≤ hits) (hn : hits ≤ n) (h : Lk w0 S cb D size hits [] X W) (hx : X mb) (hr : Row W mb 3 (meCell S.s cb size)) : Me0 w0 S cb mb D size n X W := ⟨⟨hits, hh, hn, h⟩, hx, hr⟩
def GaveM (w0 : World) (S : SA) (cb mb : Nat) (D' : SC) (size n : Int) (X : Nat → Prop) (W : World) (e : Ending) (W' : World) : Prop :=
  e = .returned .nilIface ∧ Me0 w0 S cb mb D' size n X W' ∧ Keep X W W'
set_option maxHeartbeats 1000000 in
theorem mem_giveNode (i : Nat) (h : Mm w0 S cb mb D size n X W) (hi : i < D.nc) (hth : D.na.th i = true) (hv0 : 0 ≤ D.na.ve i) (hv : D.na.ve i < 1000000) :
    Calls Tryd.prog 30 #[.pointer (some ⟨mb, 0, none⟩), .int .i64 i] W (GaveM w0 S cb mb { D with na := D.na.give i } size n X W) := by
  obtain ⟨hits, cs, a1, a2, a3, hl⟩ := h.ex
  have CL := Lib.hid (lk_clear hl)
  have q2 := h.q2
  have GV := Lib.hid (fun V (hV : Sto V S D) => arena_give S.n.a S.n.l D.nc D.na i V hV.no.ar (by have := hV.n256; omega) hV.no.ok.al hi hth hv0 hv)
  have H := Lib.hid h
  have HA := Lib.hid (show 0 ≤ hits ∧ hits ≤ n from ⟨a1, a2⟩)
  clear h hl a1 a2 a3
  go_enter Tryd.func30, Tryd.ntmps30
  go_wp2_with (fail)
  go_at_call 45
  refine (CL.out).mono ?_
  rintro e w5 ⟨rfl, hl5, hk5⟩
  have M5 := Mm.cleared HA.out.1 HA.out.2 hl5 H.out.xm (H.out.rm.of_block (hk5.2 mb H.out.xm))
  have z0 := M5.mm.q0
  have z1 := M5.mm.sto.p0
  have z2 := M5.mm.sto.no.p0
  have HL5 := Lib.hid hl5
  have HK5 := Lib.hid hk5
  have HM5 := Lib.hid M5
  have GV5 := Lib.hid (GV.out _ M5.mm.sto)
  clear hl5 hk5 M5 q2 GV CL
  go_wp2_with (fail)
  go_at_call 44
  refine (GV5.out).mono ?_
  rintro e w6 ⟨rfl, har, ho⟩
  have hno : No w6 S.n D.nc (D.na.give i) D.nk := ⟨HL5.out.sto.no.hd.only ho HL5.out.sto.no.ok.bl, har, HL5.out.sto.no.ks.only ho (fun e => HL5.out.sto.no.ok.lk e.symm), HL5.out.sto.no.ok⟩
  have hY : ∀ x, x = S.n.l → S.n.has x := fun x e => e ▸ NA.hl _
  have L6 := Lib.hid (HL5.out.step ho (fun x hx => .inr (.inl (hY x hx))) (HL5.out.sto.setNo ho hY hno))
  have K6 := Lib.hid (HL5.out.keep_step ho (fun x hx => .inr (.inl (hY x hx))))
  clear har ho hno hY
  go_wp2
  go_ret
  exact ⟨rfl, Mm.cleared HA.out.1 HA.out.2 L6.out H.out.xm (HM5.out.rm.of_block (K6.out.2 mb H.out.xm)), HK5.out.trans K6.out⟩
set_option maxHeartbeats 1000000 in
theorem mem_givePage (i : Nat) (h : Mm w0 S cb mb D size n X W) (hi : i < D.pc) (hth : D.pa.th i = true) (hv0 : 0 ≤ D.pa.ve i) (hv : D.pa.ve i < 1000000) :
    Calls Tryd.prog 31 #[.pointer (some ⟨mb, 0, none⟩), .int .i64 i] W (GaveM w0 S cb mb { D with pa := D.pa.give i } size n X W) := by
  obtain ⟨hits, cs, a1, a2, a3, hl⟩ := h.ex
  have CL := Lib.hid (lk_clear hl)
  have q2 := h.q2
  have GV := Lib.hid (fun V (hV : Sto V S D) => arena_give S.p.a S.p.l D.pc D.pa i V hV.pg.ar (by have := hV.p256; omega) hV.pg.ok.al hi hth hv0 hv)
  have H := Lib.hid h
  have HA := Lib.hid (show 0 ≤ hits ∧ hits ≤ n from ⟨a1, a2⟩)
  clear h hl a1 a2 a3
  go_enter Tryd.func31, Tryd.ntmps31
  go_wp2_with (fail)
  go_at_call 45
  refine (CL.out).mono ?_
  rintro e w5 ⟨rfl, hl5, hk5⟩
  have M5 := Mm.cleared HA.out.1 HA.out.2 hl5 H.out.xm (H.out.rm.of_block (hk5.2 mb H.out.xm))
  have z0 := M5.mm.q0
  have z1 := M5.mm.sto.p1
  have z2 := M5.mm.sto.pg.p0
  have HL5 := Lib.hid hl5
  have HK5 := Lib.hid hk5
  have HM5 := Lib.hid M5
  have GV5 := Lib.hid (GV.out _ M5.mm.sto)
  clear hl5 hk5 M5 q2 GV CL
  go_wp2_with (fail)
  go_at_call 44
  refine (GV5.out).mono ?_
  rintro e w6 ⟨rfl, har, ho⟩
  have hpg : Pg w6 S.p D.pc (D.pa.give i) D.pw := ⟨HL5.out.sto.pg.hd.only ho HL5.out.sto.pg.ok.bl, har, HL5.out.sto.pg.ks.only ho (fun e => HL5.out.sto.pg.ok.lk e.symm), HL5.out.sto.pg.ok⟩
  have hY : ∀ x, x = S.p.l → S.p.has x := fun x e => e ▸ NA.hl _
  have L6 := Lib.hid (HL5.out.step ho (fun x hx => .inr (.inr (hY x hx))) (HL5.out.sto.setPg ho hY hpg))
  have K6 := Lib.hid (HL5.out.keep_step ho (fun x hx => .inr (.inr (hY x hx))))
  clear har ho hpg hY
  go_wp2
  go_ret
  exact ⟨rfl, Mm.cleared HA.out.1 HA.out.2 L6.out H.out.xm (HM5.out.rm.of_block (K6.out.2 mb H.out.xm)), HK5.out.trans K6.out⟩
end
end Go.Proofs.YtdlemkmkheokkaaDoor
