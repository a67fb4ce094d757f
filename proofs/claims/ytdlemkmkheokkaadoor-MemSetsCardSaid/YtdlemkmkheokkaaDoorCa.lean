/- Contracts of cache.same, New, Len, Hits, Clear; the cache as data. -/
import Derived.Test.YtdlemkmkheokkaaDoorMg
namespace Go.Proofs.YtdlemkmkheokkaaDoor
open Go.RowKit

def eqK (a b : K) : Bool := a.kind == b.kind && a.id == b.id && a.ver == b.ver && a.rights == b.rights && a.data == b.data
theorem eqK_iff (a b : K) : eqK a b = true ↔ a = b := by
  cases a; cases b
  simp [eqK, and_assoc]

set_option maxHeartbeats 800000 in
theorem same_any (a b : K) (w : World) : Calls Tryd.prog 69 #[a.v, b.v] w (BoolBelow w (eqK a b)) := by
  by_cases h0 : a.kind = b.kind
  · have e0 : (a.kind == b.kind) = true := by simpa using h0
    by_cases h1 : a.id = b.id
    · have e1 : (a.id == b.id) = true := by simpa using h1
      by_cases h2 : a.ver = b.ver
      · have e2 : (a.ver == b.ver) = true := by simpa using h2
        by_cases h3 : a.rights = b.rights
        · have e3 : (a.rights == b.rights) = true := by simpa using h3
          have e : eqK a b = (a.data == b.data) := by simp [eqK, e0, e1, e2, e3]
          rw [e]
          clear h0 h1 h2 h3 e
          go_enter Tryd.func69, Tryd.ntmps69
          go_wp2
          go_ret
          exact ⟨rfl, by repeat (first | exact Below.refl _ _ | refine Below.alloc ?_ (by simp; try omega) _)⟩
        · have e3 : (a.rights == b.rights) = false := by simpa using h3
          have e : eqK a b = false := by simp [eqK, e3]
          rw [e]
          clear h0 h1 h2 h3 e
          go_enter Tryd.func69, Tryd.ntmps69
          go_wp2
          go_ret
          exact ⟨rfl, by repeat (first | exact Below.refl _ _ | refine Below.alloc ?_ (by simp; try omega) _)⟩
      · have e2 : (a.ver == b.ver) = false := by simpa using h2
        have e : eqK a b = false := by simp [eqK, e2]
        rw [e]
        clear h0 h1 h2 e
        go_enter Tryd.func69, Tryd.ntmps69
        go_wp2
        go_ret
        exact ⟨rfl, by repeat (first | exact Below.refl _ _ | refine Below.alloc ?_ (by simp; try omega) _)⟩
    · have e1 : (a.id == b.id) = false := by simpa using h1
      have e : eqK a b = false := by simp [eqK, e1]
      rw [e]
      clear h0 h1 e
      go_enter Tryd.func69, Tryd.ntmps69
      go_wp2
      go_ret
      exact ⟨rfl, by repeat (first | exact Below.refl _ _ | refine Below.alloc ?_ (by simp; try omega) _)⟩
  · have e0 : (a.kind == b.kind) = false := by simpa using h0
    have e : eqK a b = false := by simp [eqK, e0]
    rw [e]
    clear h0 e
    go_enter Tryd.func69, Tryd.ntmps69
    go_wp2
    go_ret
    exact ⟨rfl, by repeat (first | exact Below.refl _ _ | refine Below.alloc ?_ (by simp; try omega) _)⟩

/-- a way that was found -/
structure CW where
  k : K
  pg : Int
  ns : List Int
  page : Int
  at_ : Int
  ro : Bool
/-- a way's cells, v the slice of its nodes -/
def wayVals (c : CW) (v : Value) : List Value :=
  [.int .i64 c.k.kind, .int .i64 c.k.id, .int .i64 c.k.ver, .int .i64 c.k.rights, .int .u32 c.k.data, .int .u32 c.pg, v, .int .i64 c.page, .int .i64 c.at_, .bool c.ro]
def caCell (size : Int) (l : Value) (hits : Int) : Nat → Value
  | 0 => .int .i64 size
  | 1 => l
  | _ => .int .i64 hits
/-- the cache at cb, l its list of ways -/
structure Ca (W : World) (cb lo : Nat) (size hits : Int) (l : Value) (ws : List (CW × Value)) : Prop where
  hd : Row W cb 3 (caCell size l hits)
  row : W.ownsRow lo 123 10 l ws.length (ws.flatMap fun p => wayVals p.1 p.2)
  ns : ∀ p ∈ ws, Ints W lo p.2 p.1.ns
  ne : ∀ p ∈ ws, ∀ g, p.2.ownBlock = some g → l.ownBlock ≠ some g
  lt : cb < lo
  le : lo ≤ W.heap.size
theorem ownsRow_same {W W' : World} {lo : Nat} {e : TypeId} {z n : Nat} {v : Value} {xs : List Value} (h : W.ownsRow lo e z v n xs) (hs : ∀ g, v.ownBlock = some g → W'.heap[g]? = W.heap[g]?) : W'.ownsRow lo e z v n xs := by
  obtain ⟨h1, h2⟩ := h
  refine ⟨h1, ?_⟩
  rcases h2 with h2 | ⟨g, cap, cur, hv, hlo, hg, r⟩
  · exact .inl h2
  · exact .inr ⟨g, cap, cur, hv, hlo, by rw [hs g (by rw [hv]; rfl)]; exact hg, r⟩
/-- what is written ahead of the cache leaves the cache -/
theorem Ca.only {W W' : World} {cb lo : Nat} {size hits : Int} {l : Value} {ws : List (CW × Value)} (h : Ca W cb lo size hits l ws) {X : Nat → Prop} (o : Only X W W') (hX : ∀ x, X x → x < cb) : Ca W' cb lo size hits l ws := by
  have b : ∀ g, g < W.heap.size → cb ≤ g → W'.heap[g]? = W.heap[g]? := fun g hg hc => o.block g hg (fun e => by have := hX g e; omega)
  refine ⟨h.hd.only o (fun e => by have := hX _ e; omega), ownsRow_same h.row (fun g hg => ?_), fun p hp => (h.ns p hp).of (fun g hg => ?_), h.ne, h.lt, Nat.le_trans h.le o.size⟩
  · have := World.ownsRow.lt h.row g hg
    exact b g this.2 (by have := h.lt; omega)
  · have := (h.ns p hp).lt g hg
    exact b g this.2 (by have := h.lt; omega)
theorem Ca.below {W W' : World} {cb lo : Nat} {size hits : Int} {l : Value} {ws : List (CW × Value)} (h : Ca W cb lo size hits l ws) (b : Below W.heap.size W W') : Ca W' cb lo size hits l ws :=
  h.only (Only.of_below (fun _ => False) b) (fun _ e => e.elim)

/-- a new cache -/
def NewCa (w : World) (size : Int) (e : Ending) (w' : World) : Prop :=
  ∃ cb, e = .returned (.tuple #[.pointer (some ⟨cb, 0, none⟩), .nilIface]) ∧ w.heap.size ≤ cb ∧ Ca w' cb (cb + 1) size 0 (.slice none 0 0) [] ∧ Below w.heap.size w w'
theorem cache_new (size : Int) (w : World) (h1 : 1 ≤ size) (h64 : size ≤ 64) : Calls Tryd.prog 39 #[.int .i64 size] w (NewCa w size) := by
  go_enter Tryd.func39, Tryd.ntmps39
  go_wp2
  go_ret2
  refine ⟨w.heap.size, rfl, Nat.le_refl _, ⟨?_, World.ownsRow_nil _ _ _ _, fun p hp => absurd hp (List.not_mem_nil), fun p hp => absurd hp (List.not_mem_nil), by omega, by simp⟩, (Below.refl _ _).alloc (Nat.le_refl _) _⟩
  exact Row.new w #[.int .i64 size, .slice none 0 0, .int .i64 0] 121 3 (caCell size (.slice none 0 0) 0) rfl (fun i hi => by rcases (by omega : i = 0 ∨ i = 1 ∨ i = 2) with rfl | rfl | rfl <;> rfl)

section
variable {W : World} {cb lo : Nat} {size hits : Int} {l : Value} {ws : List (CW × Value)}
theorem Ca.shape (h : Ca W cb lo size hits l ws) : (l = .slice none 0 0 ∧ ws = []) ∨ ∃ g cap, l = .slice (some ⟨g, 0, none⟩) ws.length cap ∧ lo ≤ g ∧ g < W.heap.size := by
  rcases h.row.2 with ⟨h1, h2⟩ | ⟨g, cap, cur, rfl, hlo, hg, _⟩
  · exact .inl ⟨h1, List.length_eq_zero_iff.1 h2⟩
  · exact .inr ⟨g, cap, rfl, hlo, (World.ownsRow.lt h.row g rfl).2⟩
theorem Ca.c0 (h : Ca W cb lo size hits l ws) : W.cell? ⟨cb, 0, none⟩ = some (.int .i64 size) := h.hd.cell 0 (by omega)
theorem Ca.c1 (h : Ca W cb lo size hits l ws) : W.cell? ⟨cb, 1, none⟩ = some l := h.hd.cell 1 (by omega)
theorem Ca.c2 (h : Ca W cb lo size hits l ws) : W.cell? ⟨cb, 2, none⟩ = some (.int .i64 hits) := h.hd.cell 2 (by omega)
theorem cache_len (h : Ca W cb lo size hits l ws) : Calls Tryd.prog 41 #[.pointer (some ⟨cb, 0, none⟩)] W fun e w' => e = .returned (.int .i64 ws.length) ∧ W = w' := by
  have h1 := h.c1
  rcases h.shape with ⟨rfl, rfl⟩ | ⟨g, cap, rfl, _, _⟩
  · go_enter Tryd.func41, Tryd.ntmps41
    go_wp2
    go_ret
    exact ⟨rfl, rfl⟩
  · go_enter Tryd.func41, Tryd.ntmps41
    go_wp2
    go_ret
    exact ⟨rfl, rfl⟩
theorem cache_hits (h : Ca W cb lo size hits l ws) : Calls Tryd.prog 42 #[.pointer (some ⟨cb, 0, none⟩)] W fun e w' => e = .returned (.int .i64 hits) ∧ W = w' := by
  have h1 := h.c2
  go_enter Tryd.func42, Tryd.ntmps42
  go_wp2
  go_ret
  exact ⟨rfl, rfl⟩
/-- Clear -/
def Cleared (W : World) (cb lo : Nat) (size hits : Int) (e : Ending) (w' : World) : Prop := e = .returned (.tuple #[]) ∧ Ca w' cb lo size hits (.slice none 0 0) [] ∧ Only (fun x => x = cb) W w'
theorem cache_clear (h : Ca W cb lo size hits l ws) : Calls Tryd.prog 45 #[.pointer (some ⟨cb, 0, none⟩)] W (Cleared W cb lo size hits) := by
  have h1 := h.c1
  have f1 := h.hd.frozen 1
  have H := Lib.hid h
  clear h
  go_enter Tryd.func45, Tryd.ntmps45
  go_wp2
  refine bodyPost_ret (v := .tuple #[]) (by simp [results, Tryd.results45, go_sem]) rfl ?_
  have o : Only (fun x : Nat => x = cb) W (W.setCell ⟨cb, 1, none⟩ (.slice none 0 0)) := (Only.refl (fun x : Nat => x = cb) W).setCell ⟨cb, 1, none⟩ _ (.inl rfl)
  refine ⟨rfl, ⟨(H.out.hd.set 1 _).congr fun i hi => ?_, World.ownsRow_nil _ _ _ _, fun p hp => absurd hp (List.not_mem_nil), fun p hp => absurd hp (List.not_mem_nil), H.out.lt, Nat.le_trans H.out.le o.size⟩, o⟩
  rcases (by omega : i = 0 ∨ i = 1 ∨ i = 2) with rfl | rfl | rfl <;> rfl
end

end Go.Proofs.YtdlemkmkheokkaaDoor
