/- What the laws over a store share: the store as it grows under a law, a node whose slots are filled one by one. -/
import Derived.Test.YtdlemkmkheokkaaDoorLa
namespace Go.Proofs.YtdlemkmkheokkaaDoor
open Go.RowKit

/-- a law's store; what was there ahead of the law is as it was -/
structure LwS (w0 : World) (S : SA) (D : SC) (W : World) : Prop where
  sto : Sto W S D
  bel : Below w0.heap.size w0 W
  dB : ∀ x, S.has x → w0.heap.size ≤ x
section
variable {w0 : World} {S : SA} {D D' : SC} {W W' : World}
theorem LwS.step (h : LwS w0 S D W) {X : Nat → Prop} (o : Only X W W') (hX : ∀ x, X x → S.has x) (hs : Sto W' S D') : LwS w0 S D' W' :=
  ⟨hs, below_only h.bel h.bel.size o (fun i _ e => h.dB i (hX i e)), h.dB⟩
theorem LwS.below (h : LwS w0 S D W) (b : Below W.heap.size W W') : LwS w0 S D W' :=
  h.step (Only.of_below (fun _ => False) b) (fun _ h => h.elim) (h.sto.below b)
theorem LwS.drew (h : LwS w0 S D W) : LwS w0 S D W.drew := h.below ((Below.refl _ _).drew)
theorem LwS.alloc (h : LwS w0 S D W) (o : Obj) : LwS w0 S D (W.alloc o) := h.below ((Below.refl _ _).alloc (Nat.le_refl _) o)
theorem LwS.box (h : LwS w0 S D W) {b : Nat} (hb : ¬ S.has b) (h0 : w0.heap.size ≤ b) (o : Only (fun x => x = b) W W') : LwS w0 S D W' :=
  ⟨h.sto.only o (fun x hx e => hb (e ▸ hx)), below_only h.bel h.bel.size o (fun i _ e => by omega), h.dB⟩
theorem LwS.make (h : LwS w0 S D W) {i m : Nat} {k : K} (hno : No W' S.n D.nc (D.na.take i) (up D.nk i (nodeKeys m k))) (ho : Only (fun x => x = S.n.l ∨ x = S.n.k) W W') :
    LwS w0 S { D with na := D.na.take i, nk := up D.nk i (nodeKeys m k) } W' := by
  have hX : ∀ x, (x = S.n.l ∨ x = S.n.k) → S.n.has x := by
    rintro x (rfl | rfl)
    · exact NA.hl _
    · exact NA.hk _
  exact h.step ho (fun x hx => .inr (.inl (hX x hx))) (h.sto.setNo ho hX hno)
theorem LwS.set (h : LwS w0 S D W) {id i : Nat} {k : K} (hno : No W' S.n D.nc D.na (up2 D.nk id i k)) (ho : Only (fun x => x = S.n.k) W W') :
    LwS w0 S { D with nk := up2 D.nk id i k } W' := by
  have hX : ∀ x, x = S.n.k → S.n.has x := by
    rintro x rfl
    exact NA.hk _
  exact h.step ho (fun x hx => .inr (.inl (hX x hx))) (h.sto.setNo ho hX hno)
theorem LwS.page (h : LwS w0 S D W) {c : AC} {pw : Nat → Nat → Int} (hpg : Pg W' S.p D.pc c pw) (ho : Only (fun x => x = S.p.l ∨ x = S.p.k) W W') :
    LwS w0 S { D with pa := c, pw := pw } W' := by
  have hX : ∀ x, (x = S.p.l ∨ x = S.p.k) → S.p.has x := by
    rintro x (rfl | rfl)
    · exact NA.hl _
    · exact NA.hk _
  exact h.step ho (fun x hx => .inr (.inr (hX x hx))) (h.sto.setPg ho hX hpg)
end

theorem LwS.toI {w0 : World} {S : SA} {D : SC} {W : World} (h : LwS w0 S D W) (k : K) :
    LwI w0 S D W.heap.size k (W.alloc (.cells #[.int .i64 k.kind, .int .i64 k.id, .int .i64 k.ver, .int .i64 k.rights, .int .u32 k.data] 36)) := by
  refine ⟨(h.alloc _).sto, k.box W 36, (h.alloc _).bel, fun e => ?_, h.dB, h.bel.size⟩
  have := h.sto.lt _ e
  omega
theorem LwI.toS {w0 : World} {S : SA} {D : SC} {bk : Nat} {k : K} {W : World} (h : LwI w0 S D bk k W) : LwS w0 S D W := ⟨h.sto, h.bel, h.dB⟩
theorem LwI.drew {w0 : World} {S : SA} {D : SC} {bk : Nat} {k : K} {W : World} (h : LwI w0 S D bk k W) : LwI w0 S D bk k W.drew := h.below ((Below.refl _ _).drew)
theorem LwI.alloc {w0 : World} {S : SA} {D : SC} {bk : Nat} {k : K} {W : World} (h : LwI w0 S D bk k W) (o : Obj) : LwI w0 S D bk k (W.alloc o) := h.below ((Below.refl _ _).alloc (Nat.le_refl _) o)
theorem LwI.set {w0 : World} {S : SA} {D : SC} {bk : Nat} {k0 : K} {W W' : World} (h : LwI w0 S D bk k0 W) {id i : Nat} {k : K} (hno : No W' S.n D.nc D.na (up2 D.nk id i k)) (ho : Only (fun x => x = S.n.k) W W') :
    LwI w0 S { D with nk := up2 D.nk id i k } bk k0 W' := by
  have hX : ∀ x, x = S.n.k → S.n.has x := by
    rintro x rfl
    exact NA.hk _
  exact h.step ho (fun x hx => .inr (.inl (hX x hx))) (h.sto.setNo ho hX hno)

theorem LwI.other {w0 : World} {S : SA} {D : SC} {bk b : Nat} {k : K} {W W' : World} (h : LwI w0 S D bk k W) (o : Only (fun x => x = b) W W') (hb : ¬ S.has b) (hk : b ≠ bk) (h0 : w0.heap.size ≤ b) : LwI w0 S D bk k W' :=
  ⟨h.sto.only o (fun x hx e => hb (e ▸ hx)), h.rk.only o (fun e => hk e.symm), below_only h.bel h.bel.size o (fun i _ e => by omega), h.dk, h.dB, h.bB⟩
theorem at_world {P : Program} {c : Code} {Q : Exit → Act → World → Prop} {a : Act} {W W' : World} (e : W = W') (h : c.wp P Q a W') : c.wp P Q a W := e ▸ h
theorem LwI.name {w0 : World} {S : SA} {D : SC} {bk : Nat} {k xk : K} {W : World} (h : LwI w0 S D bk k W) (e : xk = k) : ∃ Wc, W = Wc ∧ Hid (LwI w0 S D bk xk Wc) := ⟨W, rfl, Lib.hid (e ▸ h)⟩
theorem pl_only (W : World) (b : Nat) (x y z : Value) : Only (fun i : Nat => i = b) W (((W.setCell ⟨b, 0, none⟩ x).setCell ⟨b, 1, none⟩ y).setCell ⟨b, 2, none⟩ z) :=
  (((Only.refl (fun i : Nat => i = b) W).setCell ⟨b, 0, none⟩ x (.inl rfl)).setCell ⟨b, 1, none⟩ y (.inl rfl)).setCell ⟨b, 2, none⟩ z (.inl rfl)
theorem pl_new (w : World) : Row (w.alloc (.cells #[.int .i64 0, .int .i64 0, .bool false] 41)) w.heap.size 3 (plCell 0 0 false) :=
  Row.new w #[.int .i64 0, .int .i64 0, .bool false] 41 3 (plCell 0 0 false) rfl (fun i hi => by rcases (by omega : i = 0 ∨ i = 1 ∨ i = 2) with rfl | rfl | rfl <;> rfl)
theorem pl_made (w : World) (p a : Int) (r : Bool) : Row (w.alloc (.cells #[.int .i64 p, .int .i64 a, .bool r] 41)) w.heap.size 3 (plCell p a r) :=
  Row.new w #[.int .i64 p, .int .i64 a, .bool r] 41 3 (plCell p a r) rfl (fun i hi => by rcases (by omega : i = 0 ∨ i = 1 ∨ i = 2) with rfl | rfl | rfl <;> rfl)

/-- node 0 is there, its first n slots hold kk's keys -/
structure Fl (nc pc : Nat) (pa : AC) (kk : Nat → K) (n : Nat) (D : SC) : Prop where
  nc : D.nc = nc
  pc : D.pc = pc
  pa : D.pa = pa
  na : D.na = acPre 1
  ks : ∀ s, s < n → D.nk 0 s = kk s
theorem Fl.set {nc pc : Nat} {pa : AC} {kk : Nat → K} {n : Nat} {D : SC} (h : Fl nc pc pa kk n D) : Fl nc pc pa kk (n + 1) { D with nk := up2 D.nk 0 n (kk n) } := by
  refine ⟨h.nc, h.pc, h.pa, h.na, fun s hs => ?_⟩
  by_cases e : s = n
  · subst e; exact up2_same _ _ _ _
  · show up2 D.nk 0 n (kk n) 0 s = _
    rw [up2_other _ _ _ _ _ _ (by omega)]
    exact h.ks s (by omega)
theorem take_pre0 : AC.zero.take 0 = acPre 1 := by rw [← acPre_zero, acPre_take]

theorem ok_node (i h : Int) (h0 : 0 ≤ i) (h1 : i ≤ 255) (h2 : 0 ≤ h) (h3 : h ≤ 4) : okK ⟨2, i, 0, 0, h⟩ :=
  .inr (.inr (.inl ⟨rfl, h0, h1, by simp, by simp, by simp, by simp, h2, h3⟩))
theorem ok_page (i : Int) (h0 : 0 ≤ i) (h1 : i ≤ 255) : okK ⟨3, i, 0, 0, 0⟩ :=
  .inr (.inr (.inr ⟨rfl, h0, h1, by simp, by simp, by simp, by simp, rfl⟩))
/-- a key's page lies in a slot -/
theorem row_cell1 {w : World} {b : Nat} {v : Value} (h : Row w b 1 (fun _ => v)) (j : Nat) (hj : j < 1) : w.cell? ((⟨b, 0, none⟩ : Addr).add j) = some v := by
  obtain rfl : j = 0 := by omega
  exact h.cell 0 (by omega)
end Go.Proofs.YtdlemkmkheokkaaDoor
