/- A store and a cache as they grow under a law. -/
import Derived.Test.YtdlemkmkheokkaaDoorCc
import Derived.Test.YtdlemkmkheokkaaDoorCg
namespace Go.Proofs.YtdlemkmkheokkaaDoor
open Go.RowKit

/-- X's blocks are as they were -/
def Keep (X : Nat → Prop) (W W' : World) : Prop := W.heap.size ≤ W'.heap.size ∧ ∀ x, X x → W'.heap[x]? = W.heap[x]?
/-- a law's store and its cache, cs being remembered; X: the law's own boxes, that nobody writes -/
structure Lk (w0 : World) (S : SA) (cb : Nat) (D : SC) (size hits : Int) (cs : List CW) (X : Nat → Prop) (W : World) : Prop where
  sto : Sto W S D
  hS : ∀ x, S.has x → x < cb
  bel : Below w0.heap.size w0 W
  dB : ∀ x, S.has x → w0.heap.size ≤ x
  cB : w0.heap.size ≤ cb
  hX : ∀ x, X x → x < W.heap.size ∧ x ≠ cb ∧ ¬ S.has x
  ca : ∃ lo l ws, Ca W cb lo size hits l ws ∧ ws.map (·.1) = cs ∧ (∀ x, X x → l.ownBlock ≠ some x) ∧ (∀ p ∈ ws, ∀ x, X x → p.2.ownBlock ≠ some x)
  s1 : 1 ≤ size
  s64 : size ≤ 64
  len : (cs.length : Int) ≤ size

section
variable {w0 : World} {S : SA} {cb : Nat} {D D' : SC} {size hits : Int} {cs : List CW} {X : Nat → Prop} {W W' : World}
theorem Keep.refl (X : Nat → Prop) (W : World) : Keep X W W := ⟨Nat.le_refl _, fun _ _ => rfl⟩
theorem Keep.trans {V : World} (h : Keep X W W') (k : Keep X W' V) : Keep X W V := ⟨Nat.le_trans h.1 k.1, fun x hx => (k.2 x hx).trans (h.2 x hx)⟩
theorem Keep.less {Y : Nat → Prop} (h : Keep X W W') (e : ∀ x, Y x → X x) : Keep Y W W' := ⟨h.1, fun x hx => h.2 x (e x hx)⟩
theorem Lk.cw (h : Lk w0 S cb D size hits cs X W) : cb < W.heap.size := by
  obtain ⟨lo, l, ws, hc, _⟩ := h.ca
  exact hc.hd.lt
theorem Lk.keep_below (h : Lk w0 S cb D size hits cs X W) (b : Below W.heap.size W W') : Keep X W W' := ⟨b.size, fun x hx => b.block x (h.hX x hx).1⟩
/-- the store is written -/
theorem Lk.step (h : Lk w0 S cb D size hits cs X W) {Y : Nat → Prop} (o : Only Y W W') (hY : ∀ x, Y x → S.has x) (hs : Sto W' S D') : Lk w0 S cb D' size hits cs X W' := by
  obtain ⟨lo, l, ws, hc, r⟩ := h.ca
  exact ⟨hs, h.hS, below_only h.bel h.bel.size o (fun i _ e => h.dB i (hY i e)), h.dB, h.cB, fun x hx => ⟨Nat.lt_of_lt_of_le (h.hX x hx).1 o.size, (h.hX x hx).2⟩, ⟨lo, l, ws, hc.only o (fun x hx => h.hS x (hY x hx)), r⟩, h.s1, h.s64, h.len⟩
theorem Lk.keep_step (h : Lk w0 S cb D size hits cs X W) {Y : Nat → Prop} (o : Only Y W W') (hY : ∀ x, Y x → S.has x) : Keep X W W' := ⟨o.size, fun x hx => o.block x (h.hX x hx).1 (fun e => (h.hX x hx).2.2 (hY x e))⟩
theorem Lk.below (h : Lk w0 S cb D size hits cs X W) (b : Below W.heap.size W W') : Lk w0 S cb D size hits cs X W' :=
  h.step (Only.of_below (fun _ => False) b) (fun _ h => h.elim) (h.sto.below b)
theorem Lk.alloc (h : Lk w0 S cb D size hits cs X W) (o : Obj) : Lk w0 S cb D size hits cs X (W.alloc o) := h.below ((Below.refl _ _).alloc (Nat.le_refl _) o)
theorem Lk.drew (h : Lk w0 S cb D size hits cs X W) : Lk w0 S cb D size hits cs X W.drew := h.below ((Below.refl _ _).drew)
/-- a new box is one of the law's own -/
theorem Lk.box (h : Lk w0 S cb D size hits cs X W) (b : Below W.heap.size W W') {g : Nat} (hg : W.heap.size ≤ g) (hlt : g < W'.heap.size) : Lk w0 S cb D size hits cs (fun x => X x ∨ x = g) W' := by
  have k := h.below b
  obtain ⟨lo, l, ws, hc, h1, h2, h3⟩ := h.ca
  have hcw := h.cw
  refine ⟨k.sto, h.hS, k.bel, h.dB, h.cB, ?_, ⟨lo, l, ws, hc.below b, h1, ?_, ?_⟩, h.s1, h.s64, h.len⟩
  · rintro x (hx | rfl)
    · exact k.hX x hx
    · exact ⟨hlt, by omega, fun e => by have := h.sto.lt _ e; omega⟩
  · rintro x (hx | rfl)
    · exact h2 x hx
    · intro e
      have := (World.ownsRow.lt hc.row _ e).2
      omega
  · rintro p hp x (hx | rfl)
    · exact h3 p hp x hx
    · intro e
      have := ((hc.ns p hp).lt _ e).2
      omega
theorem Lk.new (h : Lk w0 S cb D size hits cs X W) (o : Obj) : Lk w0 S cb D size hits cs (fun x => X x ∨ x = W.heap.size) (W.alloc o) :=
  h.box ((Below.refl _ _).alloc (Nat.le_refl _) o) (Nat.le_refl _) (by simp)
theorem Lk.less {Y : Nat → Prop} (h : Lk w0 S cb D size hits cs X W) (e : ∀ x, Y x → X x) : Lk w0 S cb D size hits cs Y W := by
  obtain ⟨lo, l, ws, hc, h1, h2, h3⟩ := h.ca
  exact ⟨h.sto, h.hS, h.bel, h.dB, h.cB, fun x hx => h.hX x (e x hx), ⟨lo, l, ws, hc, h1, fun x hx => h2 x (e x hx), fun p hp x hx => h3 p hp x (e x hx)⟩, h.s1, h.s64, h.len⟩
/-- one of the law's boxes is written -/
theorem Lk.boxw (h : Lk w0 S cb D size hits cs X W) {g : Nat} (o : Only (fun x => x = g) W W') (hg : X g) (h0 : w0.heap.size ≤ g) : Lk w0 S cb D size hits cs X W' := by
  obtain ⟨lo, l, ws, hc, h1, h2, h3⟩ := h.ca
  have hx := h.hX g hg
  refine ⟨h.sto.only o (fun x hS e => hx.2.2 (e ▸ hS)), h.hS, below_only h.bel h.bel.size o (fun i _ e => by omega), h.dB, h.cB, fun x hx => ⟨Nat.lt_of_lt_of_le (h.hX x hx).1 o.size, (h.hX x hx).2⟩, ⟨lo, l, ws, ?_, h1, h2, h3⟩, h.s1, h.s64, h.len⟩
  refine ⟨hc.hd.only o (fun e => hx.2.1 e.symm), ownsRow_same hc.row (fun x e => o.block x (World.ownsRow.lt hc.row x e).2 (fun e' => h2 g hg (e' ▸ e))), fun p hp => (hc.ns p hp).of (fun x e => o.block x ((hc.ns p hp).lt x e).2 (fun e' => h3 p hp g hg (e' ▸ e))), hc.ne, hc.lt, Nat.le_trans hc.le o.size⟩
theorem Lk.keep_boxw {Y : Nat → Prop} {g : Nat} (h : Lk w0 S cb D size hits cs X W) (o : Only (fun x => x = g) W W') (hY : ∀ x, Y x → X x ∧ x ≠ g) : Keep Y W W' := ⟨o.size, fun x hx => o.block x (h.hX x (hY x hx).1).1 (hY x hx).2⟩
/-- a store and a cache that have just been made -/
theorem Lk.start (h : LwS w0 S D W) (hc : Ca W' cb (cb + 1) size 0 (.slice none 0 0) []) (hcb : W.heap.size ≤ cb) (b : Below W.heap.size W W') (s1 : 1 ≤ size) (s64 : size ≤ 64) : Lk w0 S cb D size 0 [] (fun _ => False) W' := by
  have k := h.below b
  refine ⟨k.sto, fun x hx => Nat.lt_of_lt_of_le (h.sto.lt x hx) hcb, k.bel, h.dB, Nat.le_trans h.bel.size hcb, fun x hx => hx.elim, ⟨cb + 1, _, [], hc, rfl, fun x hx => hx.elim, fun p hp => absurd hp List.not_mem_nil⟩, s1, s64, ?_⟩
  simp; omega

/-- Find -/
def FindL (w0 : World) (S : SA) (cb : Nat) (D : SC) (size hits : Int) (X : Nat → Prop) (r : FR × Bool × List CW) (W : World) (e : Ending) (W' : World) : Prop :=
  e = .returned r.1.v ∧ Lk w0 S cb D size (if r.2.1 then hits + 1 else hits) r.2.2 X W' ∧ Keep X W W'
theorem lk_find (k : K) (addr : Int) (h : Lk w0 S cb D size hits cs X W) (ha0 : 0 ≤ addr) (ha1 : addr < 4294967296) (hh0 : 0 ≤ hits) (hh : hits ≤ 1000) :
    Calls Tryd.prog 40 #[.pointer (some ⟨cb, 0, none⟩), .pointer (some ⟨S.s, 0, none⟩), k.v, .int .u32 addr] W (FindL w0 S cb D size hits X (findF D size cs k addr) W) := by
  obtain ⟨lo, l, ws, hc, h1, h2, h3⟩ := h.ca
  have hl : ws.length = cs.length := by rw [← h1, List.length_map]
  refine (cache_find S D cb lo size hits l ws k addr W h.sto h.hS hc ha0 ha1 h.s1 h.s64 (by have := h.len; have := h.s64; omega) hh hh0).mono ?_
  rintro e W' ⟨l', ws', rfl, q1, q2, q3, q4, q5⟩
  rw [h1] at q1 q2 ⊢
  have hlo := hc.lt
  have hlb : ∀ x, l.ownBlock = some x → cb < x := fun x e => Nat.lt_of_lt_of_le hc.lt (World.ownsRow.lt hc.row x e).1
  refine ⟨rfl, ⟨h.sto.only q3 ?_, h.hS, below_only h.bel h.bel.size q3 ?_, h.dB, h.cB, fun x hx => ⟨Nat.lt_of_lt_of_le (h.hX x hx).1 q3.size, (h.hX x hx).2⟩, ⟨lo, l', ws', q2, q1, ?_, ?_⟩, h.s1, h.s64, find_len k addr h.s1 h.len⟩, q3.size, fun x hx => q3.block x (h.hX x hx).1 ?_⟩
  · rintro x hx (e | e)
    · have := h.hS x hx; omega
    · have := h.hS x hx; have := hlb x e; omega
  · rintro x _ (e | e)
    · have := h.cB; omega
    · have := h.cB; have := hlb x e; omega
  · intro x hx e
    rcases q4 x e with e' | e'
    · exact h2 x hx e'
    · have := (h.hX x hx).1; omega
  · intro p hp x hx e
    rcases q5 p hp with e' | e'
    · exact h3 p e' x hx e
    · have := e' x e; have := (h.hX x hx).1; omega
  · rintro (e | e)
    · exact (h.hX x hx).2.1 e
    · exact h2 x hx e
/-- Clear -/
theorem lk_clear (h : Lk w0 S cb D size hits cs X W) : Calls Tryd.prog 45 #[.pointer (some ⟨cb, 0, none⟩)] W fun e W' => e = .returned (.tuple #[]) ∧ Lk w0 S cb D size hits [] X W' ∧ Keep X W W' := by
  obtain ⟨lo, l, ws, hc, h1, h2, h3⟩ := h.ca
  refine (cache_clear hc).mono ?_
  rintro e W' ⟨rfl, q2, q3⟩
  refine ⟨rfl, ⟨h.sto.only q3 (fun x hx e => by have := h.hS x hx; omega), h.hS, below_only h.bel h.bel.size q3 (fun i _ e => by have := h.cB; omega), h.dB, h.cB, fun x hx => ⟨Nat.lt_of_lt_of_le (h.hX x hx).1 q3.size, (h.hX x hx).2⟩, ⟨lo, _, [], q2, rfl, fun x _ e => ?_, fun p hp => absurd hp List.not_mem_nil⟩, h.s1, h.s64, ?_⟩, q3.size, fun x hx => q3.block x (h.hX x hx).1 (h.hX x hx).2.1⟩
  · simp [Value.ownBlock] at e
  · have := h.s1; simp; omega
theorem lk_len (h : Lk w0 S cb D size hits cs X W) : Calls Tryd.prog 41 #[.pointer (some ⟨cb, 0, none⟩)] W fun e W' => e = .returned (.int .i64 cs.length) ∧ W = W' := by
  obtain ⟨lo, l, ws, hc, h1, h2, h3⟩ := h.ca
  have hl : cs.length = ws.length := by rw [← h1, List.length_map]
  rw [hl]
  exact cache_len hc
theorem lk_hits (h : Lk w0 S cb D size hits cs X W) : Calls Tryd.prog 42 #[.pointer (some ⟨cb, 0, none⟩)] W fun e W' => e = .returned (.int .i64 hits) ∧ W = W' := by
  obtain ⟨lo, l, ws, hc, h1, h2, h3⟩ := h.ca
  exact cache_hits hc

theorem nhas_lk (A : NA) : ∀ x, (x = A.l ∨ x = A.k) → A.has x := by
  rintro x (rfl | rfl)
  · exact NA.hl _
  · exact NA.hk _
theorem Lk.make (h : Lk w0 S cb D size hits cs X W) {i m : Nat} {k : K} (hno : No W' S.n D.nc (D.na.take i) (up D.nk i (nodeKeys m k))) (ho : Only (fun x => x = S.n.l ∨ x = S.n.k) W W') :
    Lk w0 S cb { D with na := D.na.take i, nk := up D.nk i (nodeKeys m k) } size hits cs X W' ∧ Keep X W W' :=
  ⟨h.step ho (fun x hx => .inr (.inl (nhas_lk _ x hx))) (h.sto.setNo ho (nhas_lk _) hno), h.keep_step ho (fun x hx => .inr (.inl (nhas_lk _ x hx)))⟩
theorem Lk.page (h : Lk w0 S cb D size hits cs X W) {c : AC} {pw : Nat → Nat → Int} (hpg : Pg W' S.p D.pc c pw) (ho : Only (fun x => x = S.p.l ∨ x = S.p.k) W W') :
    Lk w0 S cb { D with pa := c, pw := pw } size hits cs X W' ∧ Keep X W W' :=
  ⟨h.step ho (fun x hx => .inr (.inr (nhas_lk _ x hx))) (h.sto.setPg ho (nhas_lk _) hpg), h.keep_step ho (fun x hx => .inr (.inr (nhas_lk _ x hx)))⟩
theorem Lk.set (h : Lk w0 S cb D size hits cs X W) {id i : Nat} {k : K} (hno : No W' S.n D.nc D.na (up2 D.nk id i k)) (ho : Only (fun x => x = S.n.k) W W') :
    Lk w0 S cb { D with nk := up2 D.nk id i k } size hits cs X W' ∧ Keep X W W' :=
  ⟨h.step ho (fun x hx => .inr (.inl (nhas_lk _ x (.inr hx)))) (h.sto.setNo ho (fun x hx => nhas_lk _ x (.inr hx)) hno), h.keep_step ho (fun x hx => .inr (.inl (nhas_lk _ x (.inr hx))))⟩
end
end Go.Proofs.YtdlemkmkheokkaaDoor
