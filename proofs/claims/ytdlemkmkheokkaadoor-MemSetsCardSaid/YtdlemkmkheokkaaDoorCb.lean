/- The contract of cache.Find, its plain side. -/
import Derived.Test.YtdlemkmkheokkaaDoorCa
namespace Go.Proofs.YtdlemkmkheokkaaDoor
open Go.RowKit

theorem flat_get {α β : Type} (f : α → List β) (z : Nat) (hf : ∀ a, (f a).length = z) : ∀ (xs : List α) (i : Nat) (a : α), xs[i]? = some a → ∀ d, d < z → (xs.flatMap f)[i * z + d]? = (f a)[d]?
  | [], i, a, h, _, _ => by simp at h
  | x :: xs, 0, a, h, d, hd => by
    obtain rfl : x = a := by simpa using h
    rw [List.flatMap_cons, Nat.zero_mul, Nat.zero_add, List.getElem?_append_left (by rw [hf]; exact hd)]
  | x :: xs, i + 1, a, h, d, hd => by
    rw [List.flatMap_cons, List.getElem?_append_right (by rw [hf, Nat.succ_mul]; omega), hf, show (i + 1) * z + d - z = i * z + d by rw [Nat.succ_mul]; omega]
    exact flat_get f z hf xs i a (by simpa using h) d hd
theorem wayVals_length (p : CW × Value) : (wayVals p.1 p.2).length = 10 := rfl

section
variable {W : World} {cb lo g cap n : Nat} {size hits : Int} {ws : List (CW × Value)}
theorem Ca.cell (h : Ca W cb lo size hits (.slice (some ⟨g, 0, none⟩) n cap) ws) (i : Nat) (p : CW × Value) (hp : ws[i]? = some p) (d : Nat) (v : Value) (hv : (wayVals p.1 p.2)[d]? = some v) :
    W.cell? ⟨g, i * 10 + d, none⟩ = some v := by
  have hd : d < 10 := by
    have := (List.getElem?_eq_some_iff.1 hv).1
    simpa [wayVals] using this
  have e := flat_get (fun p : CW × Value => wayVals p.1 p.2) 10 wayVals_length ws i p hp d hd
  have := World.ownsRow.cells h.row (g := g) rfl (i * 10 + d) v (by rw [e]; exact hv)
  rwa [Addr.add_mid, Nat.zero_add] at this
theorem Ca.way (h : Ca W cb lo size hits (.slice (some ⟨g, 0, none⟩) n cap) ws) (i : Nat) (c : CW) (v : Value) (hp : ws[i]? = some (c, v)) :
    W.cell? ⟨g, i * 10, none⟩ = some (.int .i64 c.k.kind) ∧ W.cell? ⟨g, i * 10 + 1, none⟩ = some (.int .i64 c.k.id) ∧ W.cell? ⟨g, i * 10 + 2, none⟩ = some (.int .i64 c.k.ver) ∧ W.cell? ⟨g, i * 10 + 3, none⟩ = some (.int .i64 c.k.rights) ∧ W.cell? ⟨g, i * 10 + 4, none⟩ = some (.int .u32 c.k.data) ∧
    W.cell? ⟨g, i * 10 + 5, none⟩ = some (.int .u32 c.pg) ∧ W.cell? ⟨g, i * 10 + 6, none⟩ = some v ∧ W.cell? ⟨g, i * 10 + 7, none⟩ = some (.int .i64 c.page) ∧ W.cell? ⟨g, i * 10 + 8, none⟩ = some (.int .i64 c.at_) ∧ W.cell? ⟨g, i * 10 + 9, none⟩ = some (.bool c.ro) :=
  ⟨h.cell i _ hp 0 _ rfl, h.cell i _ hp 1 _ rfl, h.cell i _ hp 2 _ rfl, h.cell i _ hp 3 _ rfl, h.cell i _ hp 4 _ rfl, h.cell i _ hp 5 _ rfl, h.cell i _ hp 6 _ rfl, h.cell i _ hp 7 _ rfl, h.cell i _ hp 8 _ rfl, h.cell i _ hp 9 _ rfl⟩
end

/-- is it the way of this root to this page? -/
def hitB (k : K) (pg : Int) (c : CW) : Bool := c.pg == pg && eqK c.k k
/-- what Find hands back -/
structure FR where
  page : Int
  at_ : Int
  ro : Bool
  fault : Int
def FR.v (r : FR) : Value := .tuple #[.agg #[.int .i64 r.page, .int .i64 r.at_, .bool r.ro], .int .i64 r.fault]
/-- the ways behind a walk that found its page: the eldest goes where there is no room -/
def roomF (size : Int) (ws : List CW) : List CW := if size ≤ ws.length then ws.tail else ws
def findF (C : SC) (size : Int) (ws : List CW) (k : K) (addr : Int) : FR × Bool × List CW :=
  match ws.find? (hitB k (addr / 32)) with
  | some c => (⟨c.page, addr % 32, c.ro, 0⟩, true, ws)
  | none =>
    let R := wayF C k addr
    if R.fault = 0 then (⟨R.page, R.at_, R.ro, 0⟩, false, roomF size ws ++ [⟨k, addr / 32, R.nodes, R.page, R.at_, R.ro⟩])
    else (⟨0, 0, false, R.fault⟩, false, ws)
/-- Find's contract: of what was there the cache and its list's block alone are written; the list lies where it lay, or in a new block -/
def FindP (W : World) (cb lo : Nat) (size hits : Int) (l : Value) (ws : List (CW × Value)) (r : FR × Bool × List CW) (e : Ending) (w' : World) : Prop :=
  ∃ (l' : Value) (ws' : List (CW × Value)), e = .returned r.1.v ∧ ws'.map (·.1) = r.2.2 ∧ Ca w' cb lo size (if r.2.1 then hits + 1 else hits) l' ws' ∧ Only (fun x => x = cb ∨ l.ownBlock = some x) W w' ∧ (∀ g, l'.ownBlock = some g → l.ownBlock = some g ∨ W.heap.size ≤ g) ∧ (∀ p ∈ ws', p ∈ ws ∨ ∀ g, p.2.ownBlock = some g → W.heap.size ≤ g)

end Go.Proofs.YtdlemkmkheokkaaDoor
