/- Nodes, pages and stores in memory. -/
import Derived.Test.YtdlemkmkheokkaaDoorMa
namespace Go.Proofs.YtdlemkmkheokkaaDoor
open Go.RowKit

/-- where nodes (pages) lie: the struct, its arena, the arena's places, the array of slots (words) -/
structure NA where
  b : Nat
  a : Nat
  l : Nat
  k : Nat
structure NA.ok (A : NA) : Prop where
  ba : A.b ≠ A.a
  bl : A.b ≠ A.l
  bk : A.b ≠ A.k
  al : A.a ≠ A.l
  ak : A.a ≠ A.k
  lk : A.l ≠ A.k
def NA.has (A : NA) (x : Nat) : Prop := x = A.b ∨ x = A.a ∨ x = A.l ∨ x = A.k

def slotCell (nk : Nat → Nat → K) (j : Nat) : Value := (nk (j / 80) (j % 80 / 5)).cell (j % 5)
def wordCell (pw : Nat → Nat → Int) (j : Nat) : Value := .int .u32 (pw (j / 32) (j % 32))

structure No (w : World) (A : NA) (n : Nat) (c : AC) (nk : Nat → Nat → K) : Prop where
  hd : Row w A.b 2 (fun j => if j = 0 then .pointer (some ⟨A.a, 0, none⟩) else .slice (some ⟨A.k, 0, none⟩) n n)
  ar : Ar w A.a A.l n c
  ks : Row w A.k (n * 80) (slotCell nk)
  ok : A.ok

structure Pg (w : World) (A : NA) (n : Nat) (c : AC) (pw : Nat → Nat → Int) : Prop where
  hd : Row w A.b 2 (fun j => if j = 0 then .pointer (some ⟨A.a, 0, none⟩) else .slice (some ⟨A.k, 0, none⟩) n n)
  ar : Ar w A.a A.l n c
  ks : Row w A.k (n * 32) (wordCell pw)
  ok : A.ok

section
variable {w w' : World} {A : NA} {n : Nat} {c : AC} {nk : Nat → Nat → K} {pw : Nat → Nat → Int}
theorem No.p0 (h : No w A n c nk) : w.cell? ⟨A.b, 0, none⟩ = some (.pointer (some ⟨A.a, 0, none⟩)) := h.hd.cell 0 (by omega)
theorem No.p1 (h : No w A n c nk) : w.cell? ⟨A.b, 1, none⟩ = some (.slice (some ⟨A.k, 0, none⟩) n n) := h.hd.cell 1 (by omega)
theorem Pg.p0 (h : Pg w A n c pw) : w.cell? ⟨A.b, 0, none⟩ = some (.pointer (some ⟨A.a, 0, none⟩)) := h.hd.cell 0 (by omega)
theorem Pg.p1 (h : Pg w A n c pw) : w.cell? ⟨A.b, 1, none⟩ = some (.slice (some ⟨A.k, 0, none⟩) n n) := h.hd.cell 1 (by omega)
theorem No.below (h : No w A n c nk) (k : Below w.heap.size w w') : No w' A n c nk := ⟨h.hd.below k, h.ar.below k, h.ks.below k, h.ok⟩
theorem Pg.below (h : Pg w A n c pw) (k : Below w.heap.size w w') : Pg w' A n c pw := ⟨h.hd.below k, h.ar.below k, h.ks.below k, h.ok⟩
theorem No.only (h : No w A n c nk) {X : Nat → Prop} (k : Only X w w') (e : ∀ x, A.has x → ¬ X x) : No w' A n c nk :=
  ⟨h.hd.only k (e _ (.inl rfl)), h.ar.only k (e _ (.inr (.inl rfl))) (e _ (.inr (.inr (.inl rfl)))), h.ks.only k (e _ (.inr (.inr (.inr rfl)))), h.ok⟩
theorem Pg.only (h : Pg w A n c pw) {X : Nat → Prop} (k : Only X w w') (e : ∀ x, A.has x → ¬ X x) : Pg w' A n c pw :=
  ⟨h.hd.only k (e _ (.inl rfl)), h.ar.only k (e _ (.inr (.inl rfl))) (e _ (.inr (.inr (.inl rfl)))), h.ks.only k (e _ (.inr (.inr (.inr rfl)))), h.ok⟩

theorem No.same (h : No w A n c nk) (e : w'.heap = w.heap) : No w' A n c nk := ⟨h.hd.of_block (by rw [e]), h.ar.of (by rw [e]) (by rw [e]), h.ks.of_block (by rw [e]), h.ok⟩
theorem Pg.same (h : Pg w A n c pw) (e : w'.heap = w.heap) : Pg w' A n c pw := ⟨h.hd.of_block (by rw [e]), h.ar.of (by rw [e]) (by rw [e]), h.ks.of_block (by rw [e]), h.ok⟩

theorem slotCell_at (nk : Nat → Nat → K) (i s f : Nat) (hs : s < 16) (hf : f < 5) : slotCell nk (i * 80 + s * 5 + f) = (nk i s).cell f := by
  unfold slotCell
  have h1 : (i * 80 + s * 5 + f) / 80 = i := by omega
  have h2 : (i * 80 + s * 5 + f) % 80 / 5 = s := by omega
  have h3 : (i * 80 + s * 5 + f) % 5 = f := by omega
  rw [h1, h2, h3]
theorem wordCell_at (pw : Nat → Nat → Int) (i s : Nat) (hs : s < 32) : wordCell pw (i * 32 + s) = .int .u32 (pw i s) := by
  unfold wordCell
  have h1 : (i * 32 + s) / 32 = i := by omega
  have h2 : (i * 32 + s) % 32 = s := by omega
  rw [h1, h2]
theorem No.slot (h : No w A n c nk) (i s f : Nat) (hi : i < n) (hs : s < 16) (hf : f < 5) : w.cell? ⟨A.k, i * 80 + s * 5 + f, none⟩ = some ((nk i s).cell f) := by
  rw [h.ks.cell (i * 80 + s * 5 + f) (by omega), slotCell_at nk i s f hs hf]
theorem Pg.word (h : Pg w A n c pw) (i s : Nat) (hi : i < n) (hs : s < 32) : w.cell? ⟨A.k, i * 32 + s, none⟩ = some (.int .u32 (pw i s)) := by
  rw [h.ks.cell (i * 32 + s) (by omega), wordCell_at pw i s hs]

def up2 {α : Type} (f : Nat → Nat → α) (i j : Nat) (v : α) : Nat → Nat → α := fun a b => if a = i ∧ b = j then v else f a b
theorem up2_same {α : Type} (f : Nat → Nat → α) (i j : Nat) (v : α) : up2 f i j v i j = v := by simp [up2]
theorem up2_other {α : Type} (f : Nat → Nat → α) (i j a b : Nat) (v : α) (h : ¬ (a = i ∧ b = j)) : up2 f i j v a b = f a b := by simp [up2, h]

/-- a slot is set -/
theorem slotCell_set (nk : Nat → Nat → K) (i s : Nat) (k : K) (hs : s < 16) (j : Nat) :
    (if j = i * 80 + s * 5 + 4 then k.cell 4 else if j = i * 80 + s * 5 + 3 then k.cell 3 else if j = i * 80 + s * 5 + 2 then k.cell 2 else if j = i * 80 + s * 5 + 1 then k.cell 1 else if j = i * 80 + s * 5 then k.cell 0 else slotCell nk j) = slotCell (up2 nk i s k) j := by
  by_cases h : j / 80 = i ∧ j % 80 / 5 = s
  · obtain ⟨h1, h2⟩ := h
    have e : slotCell (up2 nk i s k) j = k.cell (j % 5) := by unfold slotCell; rw [h1, h2, up2_same]
    rw [e]
    have hj : j = i * 80 + s * 5 + j % 5 := by omega
    have h5 : j % 5 < 5 := Nat.mod_lt _ (by omega)
    generalize j % 5 = f at *
    subst hj
    rcases (by omega : f = 0 ∨ f = 1 ∨ f = 2 ∨ f = 3 ∨ f = 4) with rfl | rfl | rfl | rfl | rfl <;> simp
  · have e : slotCell (up2 nk i s k) j = slotCell nk j := by unfold slotCell; rw [up2_other _ _ _ _ _ _ h]
    rw [e, if_neg (by omega), if_neg (by omega), if_neg (by omega), if_neg (by omega), if_neg (by omega)]
theorem wordCell_set (pw : Nat → Nat → Int) (i s : Nat) (v : Int) (hs : s < 32) (j : Nat) : (if j = i * 32 + s then .int .u32 v else wordCell pw j) = wordCell (up2 pw i s v) j := by
  by_cases h : j = i * 32 + s
  · rw [if_pos h, h, wordCell_at _ _ _ hs, up2_same]
  · rw [if_neg h]
    unfold wordCell
    rw [up2_other _ _ _ _ _ _ (by omega)]
end

/-! ### Stores -/
/-- where a store lies -/
structure SA where
  s : Nat
  n : NA
  p : NA
/-- what a store holds -/
structure SC where
  nc : Nat
  na : AC
  nk : Nat → Nat → K
  pc : Nat
  pa : AC
  pw : Nat → Nat → Int
def SA.has (S : SA) (x : Nat) : Prop := x = S.s ∨ S.n.has x ∨ S.p.has x
structure SA.ok (S : SA) : Prop where
  sn : ¬ S.n.has S.s
  sp : ¬ S.p.has S.s
  np : ∀ x, S.n.has x → ¬ S.p.has x

structure Sto (w : World) (S : SA) (C : SC) : Prop where
  hd : Row w S.s 2 (fun j => if j = 0 then .pointer (some ⟨S.n.b, 0, none⟩) else .pointer (some ⟨S.p.b, 0, none⟩))
  no : No w S.n C.nc C.na C.nk
  pg : Pg w S.p C.pc C.pa C.pw
  ok : S.ok
  n256 : C.nc ≤ 256
  p256 : C.pc ≤ 256

section
variable {w w' : World} {S : SA} {C : SC}
theorem Sto.p0 (h : Sto w S C) : w.cell? ⟨S.s, 0, none⟩ = some (.pointer (some ⟨S.n.b, 0, none⟩)) := h.hd.cell 0 (by omega)
theorem Sto.p1 (h : Sto w S C) : w.cell? ⟨S.s, 1, none⟩ = some (.pointer (some ⟨S.p.b, 0, none⟩)) := h.hd.cell 1 (by omega)
theorem Sto.below (h : Sto w S C) (k : Below w.heap.size w w') : Sto w' S C := ⟨h.hd.below k, h.no.below k, h.pg.below k, h.ok, h.n256, h.p256⟩
theorem Sto.only (h : Sto w S C) {X : Nat → Prop} (k : Only X w w') (e : ∀ x, S.has x → ¬ X x) : Sto w' S C :=
  ⟨h.hd.only k (e _ (.inl rfl)), h.no.only k (fun x hx => e x (.inr (.inl hx))), h.pg.only k (fun x hx => e x (.inr (.inr hx))), h.ok, h.n256, h.p256⟩
theorem Sto.same (h : Sto w S C) (e : w'.heap = w.heap) : Sto w' S C := ⟨h.hd.of_block (by rw [e]), h.no.same e, h.pg.same e, h.ok, h.n256, h.p256⟩
theorem Sto.lt (h : Sto w S C) (x : Nat) (hx : S.has x) : x < w.heap.size := by
  rcases hx with rfl | (rfl | rfl | rfl | rfl) | (rfl | rfl | rfl | rfl)
  · exact h.hd.lt
  · exact h.no.hd.lt
  · exact h.no.ar.hd.lt
  · exact h.no.ar.row.lt
  · exact h.no.ks.lt
  · exact h.pg.hd.lt
  · exact h.pg.ar.hd.lt
  · exact h.pg.ar.row.lt
  · exact h.pg.ks.lt
theorem NA.hb (A : NA) : A.has A.b := .inl rfl
theorem NA.ha (A : NA) : A.has A.a := .inr (.inl rfl)
theorem NA.hl (A : NA) : A.has A.l := .inr (.inr (.inl rfl))
theorem NA.hk (A : NA) : A.has A.k := .inr (.inr (.inr rfl))

/-- the store behind a write to its nodes alone -/
theorem Sto.setNo (h : Sto w S C) {X : Nat → Prop} {c : AC} {nk : Nat → Nat → K} (k : Only X w w') (e : ∀ x, X x → S.n.has x) (hn : No w' S.n C.nc c nk) : Sto w' S { C with na := c, nk := nk } :=
  ⟨h.hd.only k (fun hx => h.ok.sn (e _ hx)), hn, h.pg.only k (fun x hx hx' => h.ok.np x (e x hx') hx), h.ok, h.n256, h.p256⟩
theorem Sto.setPg (h : Sto w S C) {X : Nat → Prop} {c : AC} {pw : Nat → Nat → Int} (k : Only X w w') (e : ∀ x, X x → S.p.has x) (hn : Pg w' S.p C.pc c pw) : Sto w' S { C with pa := c, pw := pw } :=
  ⟨h.hd.only k (fun hx => h.ok.sp (e _ hx)), h.no.only k (fun x hx hx' => h.ok.np x hx (e x hx')), hn, h.ok, h.n256, h.p256⟩
end

/-- a new store's content -/
def SC.new (n p : Nat) : SC := ⟨n, AC.zero, fun _ _ => K.zero, p, AC.zero, fun _ _ => 0⟩
def NewSto (w : World) (n p : Nat) (e : Ending) (w' : World) : Prop :=
  ∃ S : SA, e = .returned (.tuple #[.pointer (some ⟨S.s, 0, none⟩), .nilIface]) ∧ Sto w' S (SC.new n p) ∧ (∀ x, S.has x → w.heap.size ≤ x) ∧ Below w.heap.size w w'

end Go.Proofs.YtdlemkmkheokkaaDoor
