/- What the walk of cache.Find stands on. -/
import Derived.Test.YtdlemkmkheokkaaDoorCd
namespace Go.Proofs.YtdlemkmkheokkaaDoor
open Go.RowKit

theorem Ca.arr {W : World} {cb lo : Nat} {size hits : Int} {l : Value} {ws : List (CW × Value)} (h : Ca W cb lo size hits l ws) :
    ∃ A cap, l = .slice A ws.length cap ∧ (ws ≠ [] → ∃ g, A = some ⟨g, 0, none⟩ ∧ lo ≤ g ∧ g < W.heap.size) := by
  rcases h.shape with ⟨rfl, rfl⟩ | ⟨g, cap, rfl, h1, h2⟩
  · exact ⟨none, 0, rfl, fun e => absurd rfl e⟩
  · exact ⟨_, cap, rfl, fun _ => ⟨g, rfl, h1, h2⟩⟩
theorem Ca.setHits {W : World} {cb lo : Nat} {size hits : Int} {l : Value} {ws : List (CW × Value)} (h : Ca W cb lo size hits l ws) (r : Int) : Ca (W.setCell ⟨cb, 2, none⟩ (.int .i64 r)) cb lo size r l ws := by
  have o : Only (fun x : Nat => x = cb) W (W.setCell ⟨cb, 2, none⟩ (.int .i64 r)) := (Only.refl (fun x : Nat => x = cb) W).setCell ⟨cb, 2, none⟩ _ (.inl rfl)
  refine ⟨(h.hd.set 2 _).congr fun i hi => ?_, ownsRow_same h.row (fun g hg => ?_), fun p hp => (h.ns p hp).of (fun g hg => ?_), h.ne, h.lt, Nat.le_trans h.le o.size⟩
  · rcases (by omega : i = 0 ∨ i = 1 ∨ i = 2) with rfl | rfl | rfl <;> rfl
  · have := World.ownsRow.lt h.row g hg
    have := h.lt
    exact o.block g (by omega) (by omega)
  · have := (h.ns p hp).lt g hg
    have := h.lt
    exact o.block g (by omega) (by omega)

theorem Ints.arr {w : World} {lo : Nat} {v : Value} {ns : List Int} (h : Ints w lo v ns) : ∃ B cap, v = .slice B ns.length cap := by
  rcases h.2 with ⟨h1, h2⟩ | ⟨g, cap, cur, rfl, _⟩
  · exact ⟨none, 0, by rw [h1, h2]⟩
  · exact ⟨_, cap, rfl⟩

theorem below_drewN {B : Nat} {w w' : World} (h : Below B w w') (n : Nat) : Below B w (w'.drewN n) := ⟨h.os, h.tape, h.output, h.size, h.block⟩
theorem Ca.moved {W W' : World} {cb lo : Nat} {size hits hits' : Int} {l : Value} {ws : List (CW × Value)} (h : Ca W cb lo size hits l ws) (hd : Row W' cb 3 (caCell size l hits'))
    (e : ∀ x, cb < x → x < W.heap.size → W'.heap[x]? = W.heap[x]?) (hz : W.heap.size ≤ W'.heap.size) : Ca W' cb lo size hits' l ws := by
  refine ⟨hd, ownsRow_same h.row (fun g hg => ?_), fun p hp => (h.ns p hp).of (fun g hg => ?_), h.ne, h.lt, Nat.le_trans h.le hz⟩
  · have := World.ownsRow.lt h.row g hg
    have := h.lt
    exact e g (by omega) (by omega)
  · have := (h.ns p hp).lt g hg
    have := h.lt
    exact e g (by omega) (by omega)
theorem find_hit (q : CW → Bool) : ∀ (ws : List (CW × Value)) (i : Nat) (c : CW) (v : Value), (∀ j c v, j < i → ws[j]? = some (c, v) → q c = false) → ws[i]? = some (c, v) → q c = true → (ws.map (·.1)).find? q = some c
  | [], i, c, v, _, h, _ => by simp at h
  | x :: xs, 0, c, v, _, h, hq => by
    obtain rfl : x = (c, v) := by simpa using h
    simp [hq]
  | x :: xs, i + 1, c, v, hn, h, hq => by
    have h0 := hn 0 x.1 x.2 (by omega) (by simp)
    have := find_hit q xs i c v (fun j c v hj hc => hn (j + 1) c v (by omega) (by simpa using hc)) (by simpa using h) hq
    simpa [List.find?, h0] using this
theorem find_miss (q : CW → Bool) : ∀ (ws : List (CW × Value)), (∀ j c v, j < ws.length → ws[j]? = some (c, v) → q c = false) → (ws.map (·.1)).find? q = none
  | [], _ => rfl
  | x :: xs, hn => by
    have h0 := hn 0 x.1 x.2 (by simp) (by simp)
    have := find_miss q xs (fun j c v hj hc => hn (j + 1) c v (by simp; omega) (by simpa using hc))
    simpa [List.find?, h0] using this

def wayCell (c : CW) (v : Value) : Nat → Value
  | 0 => .int .i64 c.k.kind
  | 1 => .int .i64 c.k.id
  | 2 => .int .i64 c.k.ver
  | 3 => .int .i64 c.k.rights
  | 4 => .int .u32 c.k.data
  | 5 => .int .u32 c.pg
  | 6 => v
  | 7 => .int .i64 c.page
  | 8 => .int .i64 c.at_
  | _ => .bool c.ro
theorem way_new (w : World) (c : CW) (v : Value) : Row (w.alloc (.cells #[.int .i64 c.k.kind, .int .i64 c.k.id, .int .i64 c.k.ver, .int .i64 c.k.rights, .int .u32 c.k.data, .int .u32 c.pg, v, .int .i64 c.page, .int .i64 c.at_, .bool c.ro] 123)) w.heap.size 10 (wayCell c v) :=
  Row.new w #[.int .i64 c.k.kind, .int .i64 c.k.id, .int .i64 c.k.ver, .int .i64 c.k.rights, .int .u32 c.k.data, .int .u32 c.pg, v, .int .i64 c.page, .int .i64 c.at_, .bool c.ro] 123 10 (wayCell c v) rfl
    (fun i hi => by rcases (by omega : i = 0 ∨ i = 1 ∨ i = 2 ∨ i = 3 ∨ i = 4 ∨ i = 5 ∨ i = 6 ∨ i = 7 ∨ i = 8 ∨ i = 9) with rfl | rfl | rfl | rfl | rfl | rfl | rfl | rfl | rfl | rfl <;> rfl)
/-- at Find's loop: the root's box and the answer's box -/
structure FdI (w : World) (k : K) (wr : World) : Prop where
  bel : Below w.heap.size w wr
  rk : Row wr w.heap.size 5 k.cell
  rp : Row wr (w.heap.size + 1) 3 (plCell 0 0 false)
theorem FdI.below {w wr wx : World} {k : K} (h : FdI w k wr) (b : Below wr.heap.size wr wx) : FdI w k wx :=
  ⟨h.bel.trans (b.mono h.bel.size), h.rk.below b, h.rp.below b⟩

/-- at the region that appends: the list as it is by then (l1, ws1) -/
structure FdT (w : World) (cb lo : Nat) (size hits : Int) (l l1 : Value) (ws1 : List (CW × Value)) (k : K) (P : WR) (pb : Nat) (W : World) : Prop where
  only : Only (fun x => x = cb ∨ l.ownBlock = some x) w W
  rk : Row W w.heap.size 5 k.cell
  rp : Row W (w.heap.size + 1) 3 (plCell 0 0 false)
  px : Row W pb 3 (plCell P.page P.at_ P.ro)
  ca : Ca W cb lo size hits l1 ws1
  lb : ∀ g, l1.ownBlock = some g → l.ownBlock = some g ∨ w.heap.size ≤ g
  lk : ∀ g, l1.ownBlock = some g → g ≠ w.heap.size ∧ g ≠ w.heap.size + 1 ∧ g ≠ pb
  nk : ∀ p ∈ ws1, ∀ g, p.2.ownBlock = some g → g ≠ w.heap.size + 1
  cw : cb < w.heap.size
  wb : w.heap.size + 2 ≤ pb
theorem FdT.below {w : World} {cb lo : Nat} {size hits : Int} {l l1 : Value} {ws1 : List (CW × Value)} {k : K} {P : WR} {pb : Nat} {W W' : World} (h : FdT w cb lo size hits l l1 ws1 k P pb W) (b : Below W.heap.size W W') : FdT w cb lo size hits l l1 ws1 k P pb W' :=
  ⟨h.only.trans (Only.of_below _ b), h.rk.below b, h.rp.below b, h.px.below b, h.ca.below b, h.lb, h.lk, h.nk, h.cw, h.wb⟩
theorem flat_one (ws : List (CW × Value)) (c : CW) (v : Value) : (ws ++ [(c, v)]).flatMap (fun p => wayVals p.1 p.2) = ws.flatMap (fun p => wayVals p.1 p.2) ++ wayVals c v := by simp
theorem Ints.one' {w : World} {lo : Nat} {v : Value} {ns : List Int} (h : Ints w lo v ns) : v.oneCell' = true := by
  obtain ⟨B, cap, rfl⟩ := h.arr
  rfl
theorem Ca.ones {W : World} {cb lo : Nat} {size hits : Int} {l : Value} {ws : List (CW × Value)} (h : Ca W cb lo size hits l ws) : ∀ u ∈ ws.flatMap (fun p => wayVals p.1 p.2), u.oneCell' = true := by
  intro u hu
  obtain ⟨p, hp, hu⟩ := List.mem_flatMap.1 hu
  have hv := (h.ns p hp).one'
  simp only [wayVals, List.mem_cons, List.not_mem_nil, or_false] at hu
  rcases hu with rfl | rfl | rfl | rfl | rfl | rfl | rfl | rfl | rfl | rfl <;> first | rfl | exact hv
theorem wayVals_one (c : CW) (v : Value) (hv : v.oneCell' = true) : ∀ u ∈ wayVals c v, u.oneCell' = true := by
  intro u hu
  simp only [wayVals, List.mem_cons, List.not_mem_nil, or_false] at hu
  rcases hu with rfl | rfl | rfl | rfl | rfl | rfl | rfl | rfl | rfl | rfl <;> first | rfl | exact hv
theorem way_cells (w : World) (c : CW) (v : Value) : ∀ j u, (wayVals c v)[j]? = some u → (w.alloc (.cells #[.int .i64 c.k.kind, .int .i64 c.k.id, .int .i64 c.k.ver, .int .i64 c.k.rights, .int .u32 c.k.data, .int .u32 c.pg, v, .int .i64 c.page, .int .i64 c.at_, .bool c.ro] 123)).cell? ((⟨w.heap.size, 0, none⟩ : Addr).add j) = some u := by
  intro j u hu
  have hj : j < 10 := by
    have := (List.getElem?_eq_some_iff.1 hu).1
    simpa [wayVals] using this
  have h := (way_new w c v).cell j hj
  rw [Addr.add_mid, Nat.zero_add, h]
  rcases (by omega : j = 0 ∨ j = 1 ∨ j = 2 ∨ j = 3 ∨ j = 4 ∨ j = 5 ∨ j = 6 ∨ j = 7 ∨ j = 8 ∨ j = 9) with rfl | rfl | rfl | rfl | rfl | rfl | rfl | rfl | rfl | rfl <;> exact hu
theorem own_ne {g n cap x cb : Nat} (hx : (Value.slice (some ⟨g, 0, none⟩) n cap).ownBlock = some x) (h : cb < g) : x ≠ cb := by
  have e : g = x := by simpa [Value.ownBlock] using hx
  omega
/-- a way is added, the list is stored -/
theorem FdT.added {w : World} {cb lo base : Nat} {size hits : Int} {l l1 v : Value} {ws1 : List (CW × Value)} {k : K} {P : WR} {pb : Nat} {W W8 : World} {o : Obj} {c : CW} {g cap : Nat} (h : FdT w cb lo size hits l l1 ws1 k P pb W) (hv : Ints W base v c.ns) (hlo : lo ≤ base) (hbb : w.heap.size + 1 < base)
    (hb : ∀ x, l1.ownBlock = some x → x < base) (hown : W8.ownsRow lo 123 10 (.slice (some ⟨g, 0, none⟩) (ws1.length + 1) cap) (ws1.length + 1) (ws1.flatMap (fun p => wayVals p.1 p.2) ++ wayVals c v)) (hg : (W.alloc o).grownBy W8 l1.ownBlock) (hat : l1.ownBlock = some g ∨ g = W.heap.size + 1) :
    FdT w cb lo size hits l (.slice (some ⟨g, 0, none⟩) (ws1.length + 1) cap) (ws1 ++ [(c, v)]) k P pb (W8.setCell ⟨cb, 1, none⟩ (.slice (some ⟨g, 0, none⟩) (ws1.length + 1) cap)) := by
  have lr := h.rk.lt
  have lp := h.rp.lt
  have lx := h.px.lt
  have lc := h.ca.lt
  have lh := h.ca.le
  have hcb : ∀ x, l1.ownBlock = some x → x ≠ cb := fun x hx e => by have := (World.ownsRow.lt h.ca.row x hx).1; omega
  have hl1 : ∀ x, l1.ownBlock = some x → x < W.heap.size := fun x hx => (World.ownsRow.lt h.ca.row x hx).2
  have gb : ∀ x, x < W.heap.size → l1.ownBlock ≠ some x → W8.heap[x]? = W.heap[x]? := fun x hx hne => (hg.block x (by simp; omega) (fun e => hne e.symm)).trans (Below.heap_alloc W o x hx)
  have sb : ∀ x, x < W.heap.size → l1.ownBlock ≠ some x → x ≠ cb → (W8.setCell ⟨cb, 1, none⟩ (.slice (some ⟨g, 0, none⟩) (ws1.length + 1) cap)).heap[x]? = W.heap[x]? := fun x hx hne hc => (Below.heap_setCell _ _ _ _ hc).trans (gb x hx hne)
  have hgl : lo ≤ g := by
    rcases hat with e | e
    · exact (World.ownsRow.lt h.ca.row g e).1
    · omega
  have sz : W.heap.size + 1 ≤ W8.heap.size := by have := hg.size; simpa using this
  have hw := h.only.size
  refine ⟨?_, ?_, ?_, ?_, ⟨?_, ?_, ?_, ?_, h.ca.lt, ?_⟩, ?_, ?_, ?_, h.cw, h.wb⟩
  · refine ((only_then h.only (Y := fun x => l1.ownBlock = some x) (w' := W8) ⟨hg.os, hg.tape, hg.output, by omega, fun x hx hne => gb x hx hne⟩ (fun i hi e => ?_))).setCell ⟨cb, 1, none⟩ _ (.inl (.inl rfl))
    rcases h.lb i e with e' | e'
    · exact .inr e'
    · omega
  · exact h.rk.of_block (sb _ lr (fun e => (h.lk _ e).1 rfl) (by have := h.cw; omega))
  · exact h.rp.of_block (sb _ lp (fun e => (h.lk _ e).2.1 rfl) (by have := h.cw; omega))
  · exact h.px.of_block (sb _ lx (fun e => (h.lk _ e).2.2 rfl) (by have := h.cw; have := h.wb; omega))
  · have h8 : Row W8 cb 3 (caCell size l1 hits) := h.ca.hd.of_block (gb cb (by omega) (fun e => hcb cb e rfl))
    exact (h8.set 1 _).congr fun i hi => by rcases (by omega : i = 0 ∨ i = 1 ∨ i = 2) with rfl | rfl | rfl <;> rfl
  · rw [flat_one, List.length_append]
    exact ownsRow_same hown (fun x hx => Below.heap_setCell _ _ _ _ (fun e => own_ne hx (show cb < g by omega) e))
  · intro p hp
    rcases List.mem_append.1 hp with hp | hp
    · refine (h.ca.ns p hp).of (fun x hx => ?_)
      have h1 := (h.ca.ns p hp).lt x hx
      exact sb x h1.2 (h.ca.ne p hp x hx) (by omega)
    · obtain rfl : p = (c, v) := by simpa using hp
      refine (hv.lower hlo).of (fun x hx => ?_)
      have h1 := hv.lt x hx
      exact sb x h1.2 (fun e => by have := hb x e; omega) (by omega)
  · intro p hp x hx e
    have e2 : g = x := by simpa [Value.ownBlock] using e
    rcases List.mem_append.1 hp with hp | hp
    · have h1 := (h.ca.ns p hp).lt x hx
      rcases hat with e' | e'
      · exact h.ca.ne p hp x hx (by rw [e', e2])
      · omega
    · obtain rfl : p = (c, v) := by simpa using hp
      have h1 := hv.lt x hx
      rcases hat with e' | e'
      · have := hb g e'; omega
      · omega
  · have : W8.heap.size = (W8.setCell ⟨cb, 1, none⟩ (.slice (some ⟨g, 0, none⟩) (ws1.length + 1) cap)).heap.size := by simp [World.setCell]
    omega
  · intro x hx
    have e2 : g = x := by simpa [Value.ownBlock] using hx
    subst e2
    rcases hat with e' | e'
    · exact h.lb g e'
    · exact .inr (by omega)
  · intro x hx
    have e2 : g = x := by simpa [Value.ownBlock] using hx
    subst e2
    rcases hat with e' | e'
    · exact h.lk g e'
    · exact ⟨by omega, by omega, by omega⟩
  · intro p hp x hx
    rcases List.mem_append.1 hp with hp | hp
    · exact h.nk p hp x hx
    · obtain rfl : p = (c, v) := by simpa using hp
      have := hv.lt x hx
      omega
/-- the eldest has gone -/
theorem Ca.gone {W W' : World} {cb lo g m cap : Nat} {size hits : Int} {ws : List (CW × Value)} (h : Ca W cb lo size hits (.slice (some ⟨g, 0, none⟩) ws.length cap) ws) (hm : ws.length = m + 1)
    (hown : W'.ownsRow lo 123 10 (.slice (some ⟨g, 0, none⟩) m cap) m ((ws.flatMap fun p => wayVals p.1 p.2).drop 10)) (ho : Only (fun x => x = g) W W') :
    Ca (W'.setCell ⟨cb, 1, none⟩ (.slice (some ⟨g, 0, none⟩) m cap)) cb lo size hits (.slice (some ⟨g, 0, none⟩) m cap) ws.tail := by
  have hg := World.ownsRow.lt h.row g rfl
  have lc := h.lt
  have lh := h.le
  have sb : ∀ x, x < W.heap.size → x ≠ g → x ≠ cb → (W'.setCell ⟨cb, 1, none⟩ (.slice (some ⟨g, 0, none⟩) m cap)).heap[x]? = W.heap[x]? := fun x hx hne hc => (Below.heap_setCell _ _ _ _ hc).trans (ho.block x hx hne)
  have ht : ws.tail.length = m := by simp; omega
  have hf : (ws.flatMap fun p => wayVals p.1 p.2).drop 10 = ws.tail.flatMap fun p => wayVals p.1 p.2 := by
    cases ws with
    | nil => rfl
    | cons p ws => simp [List.flatMap_cons, wayVals]
  refine ⟨?_, ?_, fun p hp => ?_, fun p hp x hx e => h.ne p (List.mem_of_mem_tail hp) x hx e, h.lt, ?_⟩
  · have h8 : Row W' cb 3 (caCell size (.slice (some ⟨g, 0, none⟩) ws.length cap) hits) := h.hd.only ho (by omega)
    exact (h8.set 1 _).congr fun i hi => by rcases (by omega : i = 0 ∨ i = 1 ∨ i = 2) with rfl | rfl | rfl <;> rfl
  · rw [ht, ← hf]
    exact ownsRow_same hown (fun x hx => Below.heap_setCell _ _ _ _ (fun e => own_ne hx (show cb < g by omega) e))
  · have h1 := fun x hx => (h.ns p (List.mem_of_mem_tail hp)).lt x hx
    refine (h.ns p (List.mem_of_mem_tail hp)).of (fun x hx => sb x (h1 x hx).2 (fun e => ?_) (by have := (h1 x hx).1; omega))
    exact h.ne p (List.mem_of_mem_tail hp) x hx (by rw [e]; rfl)
  · have := ho.size
    simp [World.setCell]; omega

end Go.Proofs.YtdlemkmkheokkaaDoor
