/- Memory as the proofs of this seat speak of it: rows of cells, frames, arenas, nodes, pages, stores. -/
import Derived.WalkKit
import Derived.WalkSpells
import Derived.WalkLawsBesides
namespace Go.Proofs.YtdlemkmkheokkaaDoor
open Go.RowKit

/-! ### Rows of cells -/
/-- Block b is a row of n cells at least, none frozen, cell i holding f i. -/
def Row (w : World) (b n : Nat) (f : Nat → Value) : Prop :=
  ∃ (c : Array Value) (t : TypeId), w.heap[b]? = some (.cells c t (0, 0)) ∧ n ≤ c.size ∧ ∀ i, i < n → c[i]? = some (f i)

theorem Row.cell {w : World} {b n : Nat} {f : Nat → Value} (h : Row w b n f) (i : Nat) (hi : i < n) : w.cell? ⟨b, i, none⟩ = some (f i) := by
  obtain ⟨c, t, hb, _, hc⟩ := h
  simp [World.cell?, hb, hc i hi]

theorem Row.frozen {w : World} {b n : Nat} {f : Nat → Value} (h : Row w b n f) (i : Nat) : w.frozen? ⟨b, i, none⟩ = false := by
  obtain ⟨c, t, hb, _, _⟩ := h
  simp [World.frozen?, hb]

theorem Row.lt {w : World} {b n : Nat} {f : Nat → Value} (h : Row w b n f) : b < w.heap.size := by
  obtain ⟨c, t, hb, _, _⟩ := h
  exact (Array.getElem?_eq_some_iff.1 hb).1

theorem Row.congr {w : World} {b n : Nat} {f g : Nat → Value} (h : Row w b n f) (e : ∀ i, i < n → f i = g i) : Row w b n g := by
  obtain ⟨c, t, hb, hn, hc⟩ := h
  exact ⟨c, t, hb, hn, fun i hi => by rw [hc i hi, e i hi]⟩

theorem Row.less {w : World} {b n m : Nat} {f : Nat → Value} (h : Row w b n f) (hm : m ≤ n) : Row w b m f := by
  obtain ⟨c, t, hb, hn, hc⟩ := h
  exact ⟨c, t, hb, Nat.le_trans hm hn, fun i hi => hc i (Nat.lt_of_lt_of_le hi hm)⟩

theorem Row.of_block {w w' : World} {b n : Nat} {f : Nat → Value} (h : Row w b n f) (e : w'.heap[b]? = w.heap[b]?) : Row w' b n f := by
  obtain ⟨c, t, hb, hn, hc⟩ := h
  exact ⟨c, t, e.trans hb, hn, hc⟩

theorem Row.set {w : World} {b n : Nat} {f : Nat → Value} (h : Row w b n f) (i : Nat) (v : Value) : Row (w.setCell ⟨b, i, none⟩ v) b n (fun j => if j = i then v else f j) := by
  obtain ⟨c, t, hb, hn, hc⟩ := h
  refine ⟨c.setIfInBounds i v, t, ?_, by simpa using hn, fun j hj => ?_⟩
  · simp [World.setCell, Array.getElem?_modify, hb]
  · rw [Array.getElem?_setIfInBounds]
    by_cases e : i = j
    · subst e; simp [Nat.lt_of_lt_of_le hj hn]
    · have e' : ¬ j = i := fun x => e x.symm
      simp [e, e', hc j hj]

theorem Row.setOther {w : World} {b n : Nat} {f : Nat → Value} (h : Row w b n f) (a : Addr) (v : Value) (hne : b ≠ a.block) : Row (w.setCell a v) b n f :=
  h.of_block (by simp only [World.setCell, Array.getElem?_modify]; rw [if_neg (fun e => hne e.symm)])

theorem Row.alloc {w : World} {b n : Nat} {f : Nat → Value} (h : Row w b n f) (o : Obj) : Row (w.alloc o) b n f :=
  h.of_block (Below.heap_alloc w o b h.lt)

theorem Row.new (w : World) (c : Array Value) (t : TypeId) (n : Nat) (f : Nat → Value) (hn : c.size = n) (hf : ∀ i, i < n → c[i]? = some (f i)) : Row (w.alloc (.cells c t)) w.heap.size n f := by
  refine ⟨c, t, ?_, Nat.le_of_eq hn.symm, hf⟩
  show (w.heap.push _)[w.heap.size]? = _
  simp

/-- several cells, one behind the other -/
theorem Row.setCells {b n : Nat} : ∀ (vs : List Value) (o : Nat) (w : World) (f : Nat → Value), Row w b n f →
    Row (w.setCells b o vs) b n (fun j => if o ≤ j ∧ j < o + vs.length then vs.getD (j - o) undef else f j)
  | [], o, w, f, h => h.congr fun i _ => by
      have : ¬ (o ≤ i ∧ i < o + ([] : List Value).length) := by simp
      rw [if_neg this]
  | v :: vs, o, w, f, h => by
    refine (Row.setCells vs (o + 1) _ _ (h.set o v)).congr fun i _ => ?_
    simp only [List.length_cons]
    by_cases h1 : o + 1 ≤ i ∧ i < o + 1 + vs.length
    · rw [if_pos h1, if_pos (by omega)]
      have : i - o = (i - (o + 1)) + 1 := by omega
      rw [this, List.getD_cons_succ]
    · rw [if_neg h1]
      by_cases h2 : i = o
      · subst h2; rw [if_pos rfl, if_pos (by omega)]; simp
      · rw [if_neg h2, if_neg (by omega)]

theorem World.setCells_other (b : Nat) : ∀ (vs : List Value) (o : Nat) (w : World) (k : Nat), k ≠ b → (w.setCells b o vs).heap[k]? = w.heap[k]?
  | [], _, _, _, _ => rfl
  | v :: vs, o, w, k, h => by
    rw [World.setCells, World.setCells_other b vs (o + 1) _ k h]
    exact Below.heap_setCell _ _ _ _ h

theorem World.setCells_size (b : Nat) : ∀ (vs : List Value) (o : Nat) (w : World), (w.setCells b o vs).heap.size = w.heap.size
  | [], _, _ => rfl
  | v :: vs, o, w => by rw [World.setCells, World.setCells_size b vs (o + 1)]; simp [World.setCell]

theorem World.setCells_rest (b : Nat) : ∀ (vs : List Value) (o : Nat) (w : World), (w.setCells b o vs).os = w.os ∧ (w.setCells b o vs).tape = w.tape ∧ (w.setCells b o vs).output = w.output
  | [], _, _ => ⟨rfl, rfl, rfl⟩
  | v :: vs, o, w => by rw [World.setCells]; exact World.setCells_rest b vs (o + 1) _

/-! ### Frames -/
/-- What was there is as it was, but for the blocks of X. -/
structure Only (X : Nat → Prop) (w w' : World) : Prop where
  os : w'.os = w.os
  tape : w'.tape = w.tape
  output : w'.output = w.output
  size : w.heap.size ≤ w'.heap.size
  block : ∀ k, k < w.heap.size → ¬ X k → w'.heap[k]? = w.heap[k]?

theorem Only.of_below {w w' : World} (X : Nat → Prop) (h : Below w.heap.size w w') : Only X w w' := ⟨h.os, h.tape, h.output, h.size, fun k hk _ => h.block k hk⟩
theorem Only.refl (X : Nat → Prop) (w : World) : Only X w w := ⟨rfl, rfl, rfl, Nat.le_refl _, fun _ _ _ => rfl⟩
theorem Only.trans {X : Nat → Prop} {a b c : World} (h : Only X a b) (k : Only X b c) : Only X a c :=
  ⟨k.os.trans h.os, k.tape.trans h.tape, k.output.trans h.output, Nat.le_trans h.size k.size, fun i hi hx => (k.block i (Nat.lt_of_lt_of_le hi h.size) hx).trans (h.block i hi hx)⟩
theorem Only.mono {X Y : Nat → Prop} {a b : World} (h : Only X a b) (e : ∀ k, k < a.heap.size → X k → Y k) : Only Y a b :=
  ⟨h.os, h.tape, h.output, h.size, fun k hk hy => h.block k hk (fun hx => hy (e k hk hx))⟩
theorem Only.drew {X : Nat → Prop} {a b : World} (h : Only X a b) : Only X a b.drew := ⟨h.os, h.tape, h.output, h.size, h.block⟩
theorem Only.drewN {X : Nat → Prop} {a b : World} (h : Only X a b) (n : Nat) : Only X a (b.drewN n) := ⟨h.os, h.tape, h.output, h.size, h.block⟩
theorem Only.alloc {X : Nat → Prop} {a b : World} (h : Only X a b) (o : Obj) : Only X a (b.alloc o) :=
  h.trans (Only.of_below X ((Below.refl _ _).alloc (Nat.le_refl _) o))
theorem Only.setCell {X : Nat → Prop} {a b : World} (h : Only X a b) (p : Addr) (v : Value) (hp : X p.block ∨ a.heap.size ≤ p.block) : Only X a (b.setCell p v) :=
  ⟨h.os, h.tape, h.output, by simp only [World.setCell, Array.size_modify]; exact h.size, fun k hk hx => by
    have : k ≠ p.block := by
      intro e; subst e
      rcases hp with hp | hp
      · exact hx hp
      · omega
    rw [Below.heap_setCell _ _ _ _ this]; exact h.block k hk hx⟩
theorem Only.setCells {X : Nat → Prop} {a b : World} (h : Only X a b) (c o : Nat) (vs : List Value) (hp : X c ∨ a.heap.size ≤ c) : Only X a (b.setCells c o vs) := by
  obtain ⟨e1, e2, e3⟩ := World.setCells_rest c vs o b
  refine ⟨e1.trans h.os, e2.trans h.tape, e3.trans h.output, by rw [World.setCells_size]; exact h.size, fun k hk hx => ?_⟩
  have : k ≠ c := by
    intro e; subst e
    rcases hp with hp | hp
    · exact hx hp
    · omega
  rw [World.setCells_other _ _ _ _ _ this]; exact h.block k hk hx
/-- Nothing that was there has turned. -/
theorem Only.below {w w' : World} {X : Nat → Prop} (h : Only X w w') (e : ∀ k, k < w.heap.size → ¬ X k) : Below w.heap.size w w' :=
  ⟨h.os, h.tape, h.output, h.size, fun k hk => h.block k hk (e k hk)⟩
/-- a step behind a frame that began earlier -/
theorem below_only {B : Nat} {w0 w w' : World} {X : Nat → Prop} (h : Below B w0 w) (hB : B ≤ w.heap.size) (k : Only X w w') (e : ∀ i, i < w.heap.size → X i → B ≤ i) : Below B w0 w' :=
  h.trans ⟨k.os, k.tape, k.output, k.size, fun i hi => k.block i (by omega) (fun hx => by have := e i (by omega) hx; omega)⟩
theorem only_then {w0 w w' : World} {X Y : Nat → Prop} (h : Only X w0 w) (k : Only Y w w') (e : ∀ i, i < w0.heap.size → Y i → X i) : Only X w0 w' :=
  ⟨k.os.trans h.os, k.tape.trans h.tape, k.output.trans h.output, Nat.le_trans h.size k.size, fun i hi hx => (k.block i (Nat.lt_of_lt_of_le hi h.size) (fun hy => hx (e i hi hy))).trans (h.block i hi hx)⟩

theorem Row.only {w w' : World} {b n : Nat} {f : Nat → Value} (h : Row w b n f) {X : Nat → Prop} (k : Only X w w') (hx : ¬ X b) : Row w' b n f := h.of_block (k.block b h.lt hx)
theorem Row.below {w w' : World} {b n : Nat} {f : Nat → Value} (h : Row w b n f) (k : Below w.heap.size w w') : Row w' b n f := h.of_block (k.block b h.lt)

/-! ### Keys -/
structure K where
  kind : Int
  id : Int
  ver : Int
  rights : Int
  data : Int
abbrev K.v (k : K) : Value := .agg #[.int .i64 k.kind, .int .i64 k.id, .int .i64 k.ver, .int .i64 k.rights, .int .u32 k.data]
def K.zero : K := ⟨0, 0, 0, 0, 0⟩
def K.cell (k : K) : Nat → Value
  | 0 => .int .i64 k.kind
  | 1 => .int .i64 k.id
  | 2 => .int .i64 k.ver
  | 3 => .int .i64 k.rights
  | _ => .int .u32 k.data

def K.cells (k : K) : Array Value := #[.int .i64 k.kind, .int .i64 k.id, .int .i64 k.ver, .int .i64 k.rights, .int .u32 k.data]
theorem K.cells_get (k : K) : ∀ i, i < 5 → k.cells[i]? = some (k.cell i) := by
  intro i hi
  rcases (by omega : i = 0 ∨ i = 1 ∨ i = 2 ∨ i = 3 ∨ i = 4) with rfl | rfl | rfl | rfl | rfl <;> rfl
/-- a key's own box -/
theorem K.box (k : K) (w : World) (t : TypeId) : Row (w.alloc (.cells #[.int .i64 k.kind, .int .i64 k.id, .int .i64 k.ver, .int .i64 k.rights, .int .u32 k.data] t)) w.heap.size 5 k.cell :=
  Row.new w k.cells t 5 k.cell rfl k.cells_get

/-! ### Arenas -/
/-- what an arena holds -/
structure AC where
  th : Nat → Bool
  ve : Nat → Int
  go : Nat → Bool
def up {α : Type} (f : Nat → α) (i : Nat) (v : α) : Nat → α := fun j => if j = i then v else f j
theorem up_same {α : Type} (f : Nat → α) (i : Nat) (v : α) : up f i v i = v := by simp [up]
theorem up_other {α : Type} (f : Nat → α) (i j : Nat) (v : α) (h : j ≠ i) : up f i v j = f j := by simp [up, h]
def AC.cell (c : AC) (j : Nat) : Value := if j % 3 = 0 then .bool (c.th (j / 3)) else if j % 3 = 1 then .int .i64 (c.ve (j / 3)) else .bool (c.go (j / 3))

structure Ar (w : World) (a l n : Nat) (c : AC) : Prop where
  hd : Row w a 1 (fun _ => .slice (some ⟨l, 0, none⟩) n n)
  row : Row w l (3 * n) c.cell

theorem Ar.of {w w' : World} {a l n : Nat} {c : AC} (h : Ar w a l n c) (e1 : w'.heap[a]? = w.heap[a]?) (e2 : w'.heap[l]? = w.heap[l]?) : Ar w' a l n c := ⟨h.hd.of_block e1, h.row.of_block e2⟩
theorem Ar.below {w w' : World} {a l n : Nat} {c : AC} (h : Ar w a l n c) (k : Below w.heap.size w w') : Ar w' a l n c := ⟨h.hd.below k, h.row.below k⟩
theorem Ar.only {w w' : World} {a l n : Nat} {c : AC} (h : Ar w a l n c) {X : Nat → Prop} (k : Only X w w') (h1 : ¬ X a) (h2 : ¬ X l) : Ar w' a l n c := ⟨h.hd.only k h1, h.row.only k h2⟩

theorem AC.cell_th (c : AC) (i : Nat) : c.cell (i * 3) = .bool (c.th i) := by
  have h1 : i * 3 % 3 = 0 := by omega
  have h2 : i * 3 / 3 = i := by omega
  simp [AC.cell, h1, h2]
theorem AC.cell_ve (c : AC) (i : Nat) : c.cell (i * 3 + 1) = .int .i64 (c.ve i) := by
  have h1 : (i * 3 + 1) % 3 = 1 := by omega
  have h2 : (i * 3 + 1) / 3 = i := by omega
  simp [AC.cell, h1, h2]
theorem AC.cell_go (c : AC) (i : Nat) : c.cell (i * 3 + 2) = .bool (c.go i) := by
  have h1 : (i * 3 + 2) % 3 = 2 := by omega
  have h2 : (i * 3 + 2) / 3 = i := by omega
  simp [AC.cell, h1, h2]

theorem Ar.th {w : World} {a l n : Nat} {c : AC} (h : Ar w a l n c) (i : Nat) (hi : i < n) : w.cell? ⟨l, i * 3, none⟩ = some (.bool (c.th i)) := by
  rw [h.row.cell (i * 3) (by omega), c.cell_th]
theorem Ar.ve {w : World} {a l n : Nat} {c : AC} (h : Ar w a l n c) (i : Nat) (hi : i < n) : w.cell? ⟨l, i * 3 + 1, none⟩ = some (.int .i64 (c.ve i)) := by
  rw [h.row.cell (i * 3 + 1) (by omega), c.cell_ve]
theorem Ar.gone {w : World} {a l n : Nat} {c : AC} (h : Ar w a l n c) (i : Nat) (hi : i < n) : w.cell? ⟨l, i * 3 + 2, none⟩ = some (.bool (c.go i)) := by
  rw [h.row.cell (i * 3 + 2) (by omega), c.cell_go]
theorem Ar.head {w : World} {a l n : Nat} {c : AC} (h : Ar w a l n c) : w.cell? ⟨a, 0, none⟩ = some (.slice (some ⟨l, 0, none⟩) n n) := h.hd.cell 0 (by omega)

def AC.zero : AC := ⟨fun _ => false, fun _ => 0, fun _ => false⟩
def AC.take (c : AC) (i : Nat) : AC := ⟨up c.th i true, c.ve, c.go⟩
def AC.give (c : AC) (i : Nat) : AC := ⟨up c.th i false, up c.ve i (c.ve i + 1), c.go⟩

theorem AC.cell_take (c : AC) (i j : Nat) : (if j = i * 3 then .bool true else c.cell j) = (c.take i).cell j := by
  by_cases h : j = i * 3
  · subst h
    have h1 : i * 3 % 3 = 0 := by omega
    have h2 : i * 3 / 3 = i := by omega
    simp [AC.cell, AC.take, up, h1, h2]
  · rw [if_neg h]
    unfold AC.cell AC.take
    by_cases h1 : j % 3 = 0
    · have h2 : j / 3 ≠ i := by omega
      simp [h1, up, h2]
    · simp [h1]

theorem AC.cell_give (c : AC) (i j : Nat) : (if j = i * 3 + 1 then .int .i64 (c.ve i + 1) else (if j = i * 3 then .bool false else c.cell j)) = (c.give i).cell j := by
  by_cases h : j = i * 3 + 1
  · subst h
    have h1 : (i * 3 + 1) % 3 = 1 := by omega
    have h2 : (i * 3 + 1) / 3 = i := by omega
    simp [AC.cell, AC.give, up, h1, h2]
  · rw [if_neg h]
    by_cases h' : j = i * 3
    · subst h'
      have h1 : i * 3 % 3 = 0 := by omega
      have h2 : i * 3 / 3 = i := by omega
      simp [AC.cell, AC.give, up, h1, h2]
    · rw [if_neg h']
      unfold AC.cell AC.give
      by_cases h1 : j % 3 = 0
      · have h2 : j / 3 ≠ i := by omega
        simp [h1, up, h2]
      · by_cases h3 : j % 3 = 1
        · have h2 : j / 3 ≠ i := by omega
          simp [h3, up, h2]
        · simp [h1, h3]

theorem Ar.drewN {w : World} {a l n : Nat} {c : AC} (h : Ar w a l n c) (m : Nat) : Ar (w.drewN m) a l n c := h.of rfl rfl
theorem Ar.take {w : World} {a l n : Nat} {c : AC} (h : Ar w a l n c) (hal : a ≠ l) (i : Nat) : Ar (w.setCell ⟨l, i * 3, none⟩ (.bool true)) a l n (c.take i) :=
  ⟨h.hd.setOther _ _ hal, (h.row.set (i * 3) (.bool true)).congr fun j _ => c.cell_take i j⟩
theorem Ar.give {w : World} {a l n : Nat} {c : AC} (h : Ar w a l n c) (hal : a ≠ l) (i : Nat) : Ar ((w.setCell ⟨l, i * 3, none⟩ (.bool false)).setCell ⟨l, i * 3 + 1, none⟩ (.int .i64 (c.ve i + 1))) a l n (c.give i) :=
  ⟨(h.hd.setOther _ _ hal).setOther _ _ hal, ((h.row.set (i * 3) (.bool false)).set (i * 3 + 1) _).congr fun j _ => c.cell_give i j⟩

/-- a new arena -/
def NewAr (w : World) (n : Nat) (e : Ending) (w' : World) : Prop :=
  ∃ a l, e = .returned (.tuple #[.pointer (some ⟨a, 0, none⟩), .nilIface]) ∧ Ar w' a l n AC.zero ∧ w.heap.size ≤ a ∧ w.heap.size ≤ l ∧ a ≠ l ∧ Below w.heap.size w w'

/-- a place is taken -/
def Taken (w : World) (a l n : Nat) (c : AC) (i : Nat) (e : Ending) (w' : World) : Prop :=
  e = .returned (.tuple #[.int .i64 i, .int .i64 (c.ve i), .nilIface]) ∧ Ar w' a l n (c.take i) ∧ Only (fun k => k = l) w w'

/-- a place is given back -/
def Given (w : World) (a l n : Nat) (c : AC) (i : Nat) (e : Ending) (w' : World) : Prop :=
  e = .returned .nilIface ∧ Ar w' a l n (c.give i) ∧ Only (fun k => k = l) w w'

theorem made_get (z : Value) (s n i : Nat) (hz : z.cells.size = s) (hs : 0 < s) (hi : i < n * s) : (madeCells z.cells (n * s))[i]? = some (z.cells[i % s]'(by rw [hz]; exact Nat.mod_lt _ hs)) := by
  have h : i % z.cells.size < z.cells.size := by rw [hz]; exact Nat.mod_lt _ hs
  subst hz
  simp [madeCells, hi, h]

end Go.Proofs.YtdlemkmkheokkaaDoor
