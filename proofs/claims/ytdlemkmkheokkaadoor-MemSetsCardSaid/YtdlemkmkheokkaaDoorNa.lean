/- Contracts of mem.New, find, Load, Save, GiveNode, GivePage. -/
import Derived.Test.YtdlemkmkheokkaaDoorCh
import Derived.BigQuiet
namespace Go.Proofs.YtdlemkmkheokkaaDoor
open Go.RowKit

def meCell (s cb : Nat) (ways : Int) : Nat → Value
  | 0 => .pointer (some ⟨s, 0, none⟩)
  | 1 => .int .i64 ways
  | _ => .pointer (some ⟨cb, 0, none⟩)
/-- a law's memory: n bounds the hits -/
structure Mm (w0 : World) (S : SA) (cb mb : Nat) (D : SC) (size n : Int) (X : Nat → Prop) (W : World) : Prop where
  ex : ∃ hits cs, 0 ≤ hits ∧ hits ≤ n ∧ Good D cs ∧ Lk w0 S cb D size hits cs X W
  xm : X mb
  rm : Row W mb 3 (meCell S.s cb size)

/-- a law's memory that remembers no way -/
structure Me0 (w0 : World) (S : SA) (cb mb : Nat) (D : SC) (size n : Int) (X : Nat → Prop) (W : World) : Prop where
  ex : ∃ hits, 0 ≤ hits ∧ hits ≤ n ∧ Lk w0 S cb D size hits [] X W
  xm : X mb
  rm : Row W mb 3 (meCell S.s cb size)
theorem Me0.mm {w0 : World} {S : SA} {cb mb : Nat} {D : SC} {size n : Int} {X : Nat → Prop} {W : World} (h : Me0 w0 S cb mb D size n X W) : Mm w0 S cb mb D size n X W := by
  obtain ⟨hits, a1, a2, hl⟩ := h.ex
  exact ⟨⟨hits, [], a1, a2, Good.nil _, hl⟩, h.xm, h.rm⟩

/-- nothing that a walk looks at is changed by a word -/
theorem walk_pw (C : SC) (pw : Nat → Nat → Int) : ∀ (f : Nat) (k : K) (addr : Int) (ro : Bool) (above : Int), walkF { C with pw := pw } f k addr ro above = walkF C f k addr ro above
  | 0, _, _, _, _ => rfl
  | f + 1, k, addr, ro, above => by
    unfold walkF
    simp only [walk_pw C pw f]
    rfl
theorem way_pw (C : SC) (pw : Nat → Nat → Int) (k : K) (addr : Int) : wayF { C with pw := pw } k addr = wayF C k addr := walk_pw C pw 5 k addr false 5
theorem Good.pw {C : SC} {cs : List CW} (h : Good C cs) (pw : Nat → Nat → Int) : Good { C with pw := pw } cs := fun c hc => ⟨(h c hc).1, fun addr h0 hp => by rw [way_pw]; exact (h c hc).2 addr h0 hp⟩

section
variable {w0 : World} {S : SA} {cb mb : Nat} {D D' : SC} {size n : Int} {X : Nat → Prop} {W W' : World}
theorem Mm.q0 (h : Mm w0 S cb mb D size n X W) : W.cell? ⟨mb, 0, none⟩ = some (.pointer (some ⟨S.s, 0, none⟩)) := h.rm.cell 0 (by omega)
theorem Mm.q2 (h : Mm w0 S cb mb D size n X W) : W.cell? ⟨mb, 2, none⟩ = some (.pointer (some ⟨cb, 0, none⟩)) := h.rm.cell 2 (by omega)
theorem Mm.sto (h : Mm w0 S cb mb D size n X W) : Sto W S D := by
  obtain ⟨_, _, _, _, _, hl⟩ := h.ex
  exact hl.sto
theorem Mm.bel (h : Mm w0 S cb mb D size n X W) : Below w0.heap.size w0 W := by
  obtain ⟨_, _, _, _, _, hl⟩ := h.ex
  exact hl.bel
theorem Mm.dB (h : Mm w0 S cb mb D size n X W) : ∀ x, S.has x → w0.heap.size ≤ x := by
  obtain ⟨_, _, _, _, _, hl⟩ := h.ex
  exact hl.dB
theorem Mm.hX (h : Mm w0 S cb mb D size n X W) : ∀ x, X x → x < W.heap.size ∧ x ≠ cb ∧ ¬ S.has x := by
  obtain ⟨_, _, _, _, _, hl⟩ := h.ex
  exact hl.hX
theorem Mm.below (h : Mm w0 S cb mb D size n X W) (b : Below W.heap.size W W') : Mm w0 S cb mb D size n X W' := by
  obtain ⟨hits, cs, a1, a2, a3, hl⟩ := h.ex
  exact ⟨⟨hits, cs, a1, a2, a3, hl.below b⟩, h.xm, h.rm.below b⟩
theorem Mm.keep_below (h : Mm w0 S cb mb D size n X W) (b : Below W.heap.size W W') : Keep X W W' := ⟨b.size, fun x hx => b.block x (h.hX x hx).1⟩
theorem Mm.box (h : Mm w0 S cb mb D size n X W) (b : Below W.heap.size W W') {g : Nat} (hg : W.heap.size ≤ g) (hlt : g < W'.heap.size) : Mm w0 S cb mb D size n (fun x => X x ∨ x = g) W' := by
  obtain ⟨hits, cs, a1, a2, a3, hl⟩ := h.ex
  exact ⟨⟨hits, cs, a1, a2, a3, hl.box b hg hlt⟩, .inl h.xm, h.rm.below b⟩
theorem Mm.new (h : Mm w0 S cb mb D size n X W) (o : Obj) : Mm w0 S cb mb D size n (fun x => X x ∨ x = W.heap.size) (W.alloc o) :=
  h.box ((Below.refl _ _).alloc (Nat.le_refl _) o) (Nat.le_refl _) (by simp)
theorem Mm.less {Y : Nat → Prop} (h : Mm w0 S cb mb D size n X W) (e : ∀ x, Y x → X x) (hm : Y mb) : Mm w0 S cb mb D size n Y W := by
  obtain ⟨hits, cs, a1, a2, a3, hl⟩ := h.ex
  exact ⟨⟨hits, cs, a1, a2, a3, hl.less e⟩, hm, h.rm⟩
theorem Mm.more {m : Int} (h : Mm w0 S cb mb D size n X W) (e : n ≤ m) : Mm w0 S cb mb D size m X W := by
  obtain ⟨hits, cs, a1, a2, a3, hl⟩ := h.ex
  exact ⟨⟨hits, cs, a1, by omega, a3, hl⟩, h.xm, h.rm⟩
/-- one of the law's boxes is written -/
theorem Mm.boxw (h : Mm w0 S cb mb D size n X W) {g : Nat} (o : Only (fun x => x = g) W W') (hg : X g) (hne : mb ≠ g) (h0 : w0.heap.size ≤ g) : Mm w0 S cb mb D size n X W' := by
  obtain ⟨hits, cs, a1, a2, a3, hl⟩ := h.ex
  exact ⟨⟨hits, cs, a1, a2, a3, hl.boxw o hg h0⟩, h.xm, h.rm.only o hne⟩
/-- a page's words are written -/
theorem Mm.wrote (h : Mm w0 S cb mb D size n X W) {pw : Nat → Nat → Int} (hpg : Pg W' S.p D.pc D.pa pw) (ho : Only (fun x => x = S.p.k) W W') : Mm w0 S cb mb { D with pw := pw } size n X W' ∧ Keep X W W' := by
  obtain ⟨hits, cs, a1, a2, a3, hl⟩ := h.ex
  obtain ⟨k1, k2⟩ := hl.page hpg (ho.mono fun _ _ e => .inr e)
  exact ⟨⟨⟨hits, cs, a1, a2, a3.pw pw, k1⟩, h.xm, h.rm.of_block (k2.2 mb h.xm)⟩, k2⟩

theorem Lk.rebase {w1 : World} {hits : Int} {cs : List CW} (h : Lk w1 S cb D size hits cs X W) (b : Below w0.heap.size w0 w1) : Lk w0 S cb D size hits cs X W :=
  ⟨h.sto, h.hS, b.trans (h.bel.mono b.size), fun x hx => Nat.le_trans b.size (h.dB x hx), Nat.le_trans b.size h.cB, h.hX, h.ca, h.s1, h.s64, h.len⟩
theorem Me0.rebase {w1 : World} (h : Me0 w1 S cb mb D size n X W) (b : Below w0.heap.size w0 w1) : Me0 w0 S cb mb D size n X W := by
  obtain ⟨hits, a1, a2, hl⟩ := h.ex
  exact ⟨⟨hits, a1, a2, hl.rebase b⟩, h.xm, h.rm⟩
theorem Me0.below (h : Me0 w0 S cb mb D size n X W) (b : Below W.heap.size W W') : Me0 w0 S cb mb D size n X W' := by
  obtain ⟨hits, a1, a2, hl⟩ := h.ex
  exact ⟨⟨hits, a1, a2, hl.below b⟩, h.xm, h.rm.below b⟩
theorem Me0.box (h : Me0 w0 S cb mb D size n X W) (b : Below W.heap.size W W') {g : Nat} (hg : W.heap.size ≤ g) (hlt : g < W'.heap.size) : Me0 w0 S cb mb D size n (fun x => X x ∨ x = g) W' := by
  obtain ⟨hits, a1, a2, hl⟩ := h.ex
  exact ⟨⟨hits, a1, a2, hl.box b hg hlt⟩, .inl h.xm, h.rm.below b⟩
theorem Me0.new (h : Me0 w0 S cb mb D size n X W) (o : Obj) : Me0 w0 S cb mb D size n (fun x => X x ∨ x = W.heap.size) (W.alloc o) :=
  h.box ((Below.refl _ _).alloc (Nat.le_refl _) o) (Nat.le_refl _) (by simp)
theorem Me0.less {Y : Nat → Prop} (h : Me0 w0 S cb mb D size n X W) (e : ∀ x, Y x → X x) (hm : Y mb) : Me0 w0 S cb mb D size n Y W := by
  obtain ⟨hits, a1, a2, hl⟩ := h.ex
  exact ⟨⟨hits, a1, a2, hl.less e⟩, hm, h.rm⟩
theorem Me0.boxw (h : Me0 w0 S cb mb D size n X W) {g : Nat} (o : Only (fun x => x = g) W W') (hg : X g) (hne : mb ≠ g) (h0 : w0.heap.size ≤ g) : Me0 w0 S cb mb D size n X W' := by
  obtain ⟨hits, a1, a2, hl⟩ := h.ex
  exact ⟨⟨hits, a1, a2, hl.boxw o hg h0⟩, h.xm, h.rm.only o hne⟩
theorem Me0.make (h : Me0 w0 S cb mb D size n X W) {i m : Nat} {k : K} (hno : No W' S.n D.nc (D.na.take i) (up D.nk i (nodeKeys m k))) (ho : Only (fun x => x = S.n.l ∨ x = S.n.k) W W') :
    Me0 w0 S cb mb { D with na := D.na.take i, nk := up D.nk i (nodeKeys m k) } size n X W' ∧ Keep X W W' := by
  obtain ⟨hits, a1, a2, hl⟩ := h.ex
  obtain ⟨k1, k2⟩ := hl.make hno ho
  exact ⟨⟨⟨hits, a1, a2, k1⟩, h.xm, h.rm.of_block (k2.2 mb h.xm)⟩, k2⟩
theorem Me0.page (h : Me0 w0 S cb mb D size n X W) {c : AC} {pw : Nat → Nat → Int} (hpg : Pg W' S.p D.pc c pw) (ho : Only (fun x => x = S.p.l ∨ x = S.p.k) W W') :
    Me0 w0 S cb mb { D with pa := c, pw := pw } size n X W' ∧ Keep X W W' := by
  obtain ⟨hits, a1, a2, hl⟩ := h.ex
  obtain ⟨k1, k2⟩ := hl.page hpg ho
  exact ⟨⟨⟨hits, a1, a2, k1⟩, h.xm, h.rm.of_block (k2.2 mb h.xm)⟩, k2⟩

/-- a new memory -/
def NewMe (w : World) (nn np : Nat) (size : Int) (e : Ending) (w' : World) : Prop :=
  ∃ (S : SA) (cb mb : Nat), e = .returned (.tuple #[.pointer (some ⟨mb, 0, none⟩), .nilIface]) ∧ w.heap.size ≤ mb ∧ Me0 w S cb mb (SC.new nn np) size 0 (fun x => x = mb) w'
set_option maxHeartbeats 400000 in
theorem mem_new (nn np : Nat) (size : Int) (w : World) (h1 : 1 ≤ nn) (hn : nn ≤ 256) (h2 : 1 ≤ np) (hp : np ≤ 256) (s1 : 1 ≤ size) (s64 : size ≤ 64) :
    Calls Tryd.prog 28 #[.int .i64 nn, .int .i64 np, .int .i64 size] w (NewMe w nn np size) := by
  have SN := Lib.hid (fun W => store_new nn np W h1 hn h2 hp)
  have CN := Lib.hid (fun W => cache_new size W s1 s64)
  go_enter Tryd.func28, Tryd.ntmps28
  go_wp2_with (fail)
  go_at_call 18
  refine (SN.out _).mono ?_
  rintro e w1 ⟨S, rfl, hs, hx, hb⟩
  have L1 := Lib.hid (show LwS w S (SC.new nn np) w1 from ⟨hs, hb, hx⟩)
  clear hs hx hb
  go_wp2_with (fail)
  go_at_call 39
  refine (CN.out _).mono ?_
  rintro e w2 ⟨cb, rfl, hcb, hc, hb2⟩
  have L2 := Lib.hid (Lk.start L1.out hc hcb hb2 s1 s64)
  have sz : w.heap.size ≤ w2.heap.size := L2.out.bel.size
  clear hc hb2 hcb
  go_wp2
  go_ret2
  refine ⟨S, cb, w2.heap.size, rfl, sz, ⟨0, by omega, by omega, (L2.out.new _).less (fun x hx => .inr hx)⟩, rfl, ?_⟩
  exact Row.new w2 #[.pointer (some ⟨S.s, 0, none⟩), .int .i64 size, .pointer (some ⟨cb, 0, none⟩)] 55 3 (meCell S.s cb size) rfl (fun i hi => by rcases (by omega : i = 0 ∨ i = 1 ∨ i = 2) with rfl | rfl | rfl <;> rfl)

/-- find -/
def FindM (w0 : World) (S : SA) (cb mb : Nat) (D : SC) (size n : Int) (X : Nat → Prop) (R : WR) (W : World) (e : Ending) (W' : World) : Prop :=
  e = .returned R.fr.v ∧ Mm w0 S cb mb D size (n + 1) X W' ∧ Keep X W W'
set_option maxHeartbeats 1000000 in
theorem mem_find (k : K) (addr : Int) (h : Mm w0 S cb mb D size n X W) (ha0 : 0 ≤ addr) (ha1 : addr < 4294967296) (hn : n ≤ 1000) :
    Calls Tryd.prog 64 #[.pointer (some ⟨mb, 0, none⟩), k.v, .int .u32 addr] W (FindM w0 S cb mb D size n X (wayF D k addr) W) := by
  have M1 := (h.new (.cells #[.int .i64 k.kind, .int .i64 k.id, .int .i64 k.ver, .int .i64 k.rights, .int .u32 k.data] 36)).box (g := W.heap.size + 1) ((Below.refl _ _).alloc (Nat.le_refl _) (.cells #[.int .i64 0, .int .i64 0, .bool false] 41)) (by simp) (by simp)
  have rk : Row ((W.alloc (.cells #[.int .i64 k.kind, .int .i64 k.id, .int .i64 k.ver, .int .i64 k.rights, .int .u32 k.data] 36)).alloc (.cells #[.int .i64 0, .int .i64 0, .bool false] 41)) W.heap.size 5 k.cell := (k.box W 36).alloc _
  have rp : Row ((W.alloc (.cells #[.int .i64 k.kind, .int .i64 k.id, .int .i64 k.ver, .int .i64 k.rights, .int .u32 k.data] 36)).alloc (.cells #[.int .i64 0, .int .i64 0, .bool false] 41)) (W.heap.size + 1) 3 (plCell 0 0 false) := by
    have := pl_new (W.alloc (.cells #[.int .i64 k.kind, .int .i64 k.id, .int .i64 k.ver, .int .i64 k.rights, .int .u32 k.data] 36))
    simpa using this
  have hb1 : Below W.heap.size W ((W.alloc (.cells #[.int .i64 k.kind, .int .i64 k.id, .int .i64 k.ver, .int .i64 k.rights, .int .u32 k.data] 36)).alloc (.cells #[.int .i64 0, .int .i64 0, .bool false] 41)) := ((Below.refl _ W).alloc (Nat.le_refl _) _).alloc (by simp) _
  obtain ⟨Wa, hWa⟩ : ∃ Wa, Wa = ((W.alloc (.cells #[.int .i64 k.kind, .int .i64 k.id, .int .i64 k.ver, .int .i64 k.rights, .int .u32 k.data] 36)).alloc (.cells #[.int .i64 0, .int .i64 0, .bool false] 41)) := ⟨_, rfl⟩
  rw [← hWa] at rk rp hb1 M1
  obtain ⟨hits, cs, a1, a2, a3, hl⟩ := (M1.below ((Below.refl Wa.heap.size Wa).drew)).ex
  have G := good_find a3 size k addr ha0
  have FD := lk_find k addr hl ha0 ha1 a1 (by omega)
  obtain ⟨⟨⟨fp, fa, fr, ff⟩, fh, fc⟩, hRR⟩ : ∃ RR, RR = findF D size cs k addr := ⟨_, rfl⟩
  rw [← hRR] at G FD
  have z0 : Wa.cell? ⟨mb, 0, none⟩ = some (.pointer (some ⟨S.s, 0, none⟩)) := M1.q0
  have z2 : Wa.cell? ⟨mb, 2, none⟩ = some (.pointer (some ⟨cb, 0, none⟩)) := M1.q2
  obtain ⟨k0, k1, k2, k3, k4⟩ := K.facts rk
  have nm : W.heap.size + 1 ≠ mb := by have := (h.hX mb h.xm).1; omega
  have HWA := Lib.hid hWa
  have RP := Lib.hid rp
  have RK := Lib.hid rk
  have HM := Lib.hid M1
  have HFD := Lib.hid FD
  have HG := Lib.hid G
  have HB := Lib.hid hb1
  have H := Lib.hid h
  have HA := Lib.hid (show 0 ≤ hits ∧ hits ≤ n from ⟨a1, a2⟩)
  clear h hWa rp rk M1 FD G hRR hb1 hl a1 a2 a3
  go_enter Tryd.func64, Tryd.ntmps64
  go_wp2_with (fail)
  rw [← HWA.out]
  go_region_held3 (fun V => V.cell? ⟨mb, 0, none⟩ = some (.pointer (some ⟨S.s, 0, none⟩)) ∧ V.cell? ⟨mb, 2, none⟩ = some (.pointer (some ⟨cb, 0, none⟩)) ∧ V.cell? ⟨W.heap.size, 0, none⟩ = some (.int .i64 k.kind) ∧ V.cell? ⟨W.heap.size, 1, none⟩ = some (.int .i64 k.id) ∧ V.cell? ⟨W.heap.size, 2, none⟩ = some (.int .i64 k.ver) ∧ V.cell? ⟨W.heap.size, 3, none⟩ = some (.int .i64 k.rights) ∧ V.cell? ⟨W.heap.size, 4, none⟩ = some (.int .u32 k.data))
    (first | exact ⟨z0, z2, k0, k1, k2, k3, k4⟩ | go_keep)
    ((go_at_call 40; refine (HFD.out).mono ?_; rintro e w5 ⟨he, hl5, hk5⟩; obtain rfl : e = .returned (.tuple #[.agg #[.int .i64 fp, .int .i64 fa, .bool fr], .int .i64 ff]) := he; have R5 := RP.out.of_block (w' := w5) (hk5.2 _ (.inr rfl)); have lp := R5.lt; obtain ⟨p0, p1, p2, q0, q1, q2⟩ := pl_facts R5; obtain ⟨k0, k1, k2, k3, k4⟩ := K.facts (RK.out.of_block (w' := w5) (hk5.2 _ (.inl (.inr rfl)))); have r5 := HM.out.rm.of_block (w' := w5) (hk5.2 _ (.inl (.inl H.out.xm))); have z0 : w5.cell? ⟨mb, 0, none⟩ = some (.pointer (some ⟨S.s, 0, none⟩)) := r5.cell 0 (by omega); have z2 : w5.cell? ⟨mb, 2, none⟩ = some (.pointer (some ⟨cb, 0, none⟩)) := r5.cell 2 (by omega); have HL5 := Lib.hid hl5; have HK5 := Lib.hid hk5; have HR5 := Lib.hid R5; clear hl5 hk5 R5 r5))
  have RP6 := (((HR5.out.set 0 (.int .i64 fp)).set 1 (.int .i64 fa)).set 2 (.bool fr)).congr (g := plCell fp fa fr) (fun j hj => by rcases (by omega : j = 0 ∨ j = 1 ∨ j = 2) with rfl | rfl | rfl <;> rfl)
  obtain ⟨m0, m1, m2, -, -, -⟩ := pl_facts RP6
  clear RP6 p0 p1 p2 q0 q1 q2
  go_wp2
  have o := pl_only w5 (W.heap.size + 1) (.int .i64 fp) (.int .i64 fa) (.bool fr)
  have bx := HL5.out.boxw o (.inr rfl) (by have := H.out.bel.size; omega)
  have kp : Keep X W (((w5.setCell ⟨W.heap.size + 1, 0, none⟩ (.int .i64 fp)).setCell ⟨W.heap.size + 1, 1, none⟩ (.int .i64 fa)).setCell ⟨W.heap.size + 1, 2, none⟩ (.bool fr)) :=
    ((H.out.keep_below HB.out).trans (HK5.out.less (fun x hx => .inl (.inl hx)))).trans ⟨o.size, fun x hx => o.block x (Nat.lt_of_lt_of_le (H.out.hX x hx).1 (Nat.le_trans HB.out.size HK5.out.1)) (fun e => by have := (H.out.hX x hx).1; omega)⟩
  have G1 := HG.out.1
  have ea := HA.out
  refine bodyPost_ret (v := .tuple #[.agg #[.int .i64 fp, .int .i64 fa, .bool fr], .int .i64 ff]) (by simp only [results, Tryd.results64, go_sem]; simp [go_sem, m0, m1, m2]) rfl ⟨?_, ⟨⟨_, _, ?_, ?_, HG.out.2, bx.less (fun x hx => .inl (.inl hx))⟩, H.out.xm, H.out.rm.of_block (kp.2 mb H.out.xm)⟩, kp⟩
  · rw [← G1]; rfl
  · split <;> omega
  · split <;> omega
end
end Go.Proofs.YtdlemkmkheokkaaDoor
