/- The contract of turnkeylaw10.made at any tree; turnkeylaw10.first answers true. -/
import Derived.Test.YtdlemkmkheokkaaDoorTb
import Derived.Test.YtdlemkmkheokkaaDoorXh
import Derived.Test.YtdlemkmkheokkaaDoorCh
namespace Go.Proofs.YtdlemkmkheokkaaDoor
open Go.RowKit

/-- a content whose keys may be set -/
structure YC.good (C : YC) : Prop where
  ks : ∀ a b, okK (C.nk a b)
  nm : C.nm ≤ C.n
  pm : C.pm ≤ C.p
  n256 : C.n ≤ 256
  p256 : C.p ≤ 256
theorem ok_zero : okK K.zero := .inl ⟨rfl, rfl, rfl, rfl, rfl⟩
theorem leaf_good {C : YC} (h : C.good) (n : Nat) : (leafF C n).1.good ∧ okK (leafF C n).2 ∧ (leafF C n).2.kind ≠ 1 := by
  unfold leafF
  split
  · rename_i hlt
    have := h.p256
    exact ⟨⟨h.ks, h.nm, by show C.pm + 1 ≤ C.p; omega, h.n256, h.p256⟩, ok_page _ (by omega) (by omega), by simp⟩
  · exact ⟨h, ok_zero, by simp [K.zero]⟩
theorem adj_ok {m h : Int} {x : K} (hx : okK x) (hk : x.kind ≠ 1) (h1 : 1 ≤ h) (h4 : h ≤ 4) : okK (adjF m h x) := by
  unfold adjF
  have key : ∀ r : Int, 0 ≤ r → r ≤ 7 → x.kind ≠ 0 → okK { x with rights := r } := by
    intro r r0 r7 h0
    rcases hx with ⟨e, _⟩ | ⟨e, _⟩ | ⟨e, a1, a2, a3, a4, _, _, a5, a6⟩ | ⟨e, a1, a2, a3, a4, _, _, a5⟩
    · exact absurd e h0
    · exact absurd e hk
    · exact .inr (.inr (.inl ⟨e, a1, a2, a3, a4, r0, r7, a5, a6⟩))
    · exact .inr (.inr (.inr ⟨e, a1, a2, a3, a4, r0, r7, a5⟩))
  split
  · rename_i hc
    rcases hx with ⟨e, _⟩ | ⟨e, _⟩ | ⟨e, a1, a2, a3, a4, a5, a6, _, _⟩ | ⟨e, _⟩
    · rw [hc.2] at e; cases e
    · rw [hc.2] at e; cases e
    · exact .inr (.inr (.inl ⟨e, a1, a2, a3, a4, a5, a6, by show 0 ≤ h; omega, h4⟩))
    · rw [hc.2] at e; cases e
  · split
    · rename_i hc; exact key 1 (by omega) (by omega) hc.2
    · split
      · rename_i hc; exact key 4 (by omega) (by omega) hc.2
      · exact hx
theorem put_good {C : YC} (h : C.good) (i s : Nat) {k : K} (hk : okK k) : (C.put i s k).good := by
  refine ⟨fun a b => ?_, h.nm, h.pm, h.n256, h.p256⟩
  show okK (up2 C.nk i s k a b)
  unfold up2
  split
  · exact hk
  · exact h.ks a b
theorem loop_good (T : Int → List Int → YC → YC × K) (h : Int) (h1 : 1 ≤ h) (h4 : h ≤ 4) (hT : ∀ (hh : Int) (l : List Int) (C : YC), hh ≤ 4 → C.good → (T hh l C).1.good ∧ okK (T hh l C).2 ∧ (T hh l C).2.kind ≠ 1) (nid : Nat) :
    ∀ (r : Nat) (l : List Int) (C : YC), C.good → (loopF T h nid r l C).good
  | 0, l, C, hc => by rw [loop_out]; exact hc
  | r + 1, [], C, hc => hc
  | r + 1, [_], C, hc => hc
  | r + 1, a :: b :: l, C, hc => by
    refine loop_good T h h1 h4 hT nid r l _ ?_
    unfold roundF
    split
    · exact hc
    · obtain ⟨g1, g2, g3⟩ := hT (lowF (b.tmod 6) h) (b :: l) C (by unfold lowF; split <;> omega) hc
      exact put_good g1 _ _ (adj_ok g2 g3 h1 h4)
theorem tree_good : ∀ (n : Nat) (h : Int) (l : List Int) (C : YC), h ≤ 4 → C.good → (treeF n h l C).1.good ∧ okK (treeF n h l C).2 ∧ (treeF n h l C).2.kind ≠ 1
  | 0, _, l, C, _, hc => leaf_good hc l.length
  | n + 1, h, l, C, h4, hc => by
    unfold treeF
    split
    · exact leaf_good hc l.length
    · split
      · rename_i h1 hlt
        have := hc.n256
        refine ⟨loop_good (treeF n) h (by omega) h4 (tree_good n) C.nm 4 l C.node ⟨fun a b => ?_, by show C.nm + 1 ≤ C.n; omega, hc.pm, hc.n256, hc.p256⟩, ok_node _ _ (by omega) (by omega) (by omega) h4, by simp⟩
        show okK (up C.nk C.nm (fun _ => K.zero) a b)
        unfold up
        split
        · exact ok_zero
        · exact hc.ks a b
      · exact ⟨hc, ok_zero, by simp [K.zero]⟩
theorem new_good : (YC.new 16 16).good := ⟨fun _ _ => ok_zero, by decide, by decide, by decide, by decide⟩

/-- made, of a list that lies in memory -/
theorem made10_list (n : Nat) (h : Int) (l : List Int) (g off cap : Nat) (w : World) (hn : h ≤ n) (h4 : h ≤ 4) (hL : Lst w g off l) (hl : l.length ≤ 1000) (hc : l.length ≤ cap) (hg : g < w.heap.size) :
    Calls Tryd.prog 46 #[.int .i64 h, .slice (some ⟨g, off, none⟩) l.length cap] w (Made10 w (treeF n h l (YC.new 16 16)).1 (treeF n h l (YC.new 16 16)).2) := by
  have hle := tree_le n h l (YC.new 16 16)
  refine made10 h _ l.length cap _ _ w hle.n hle.p (fun a _ b _ => (tree_good n h l _ h4 new_good).1.ks a b) (fun W Y hb hY hs => ?_)
  exact tree_any Y n h l _ W g off cap hn h4 hs (hL.of (hb.block g hg)) hl hc (fun e => by have := hY g (YA.X_has e); omega) (by have := hb.size; omega)

def T10 : YC × K := treeF 1 1 [0, 1, 0] (YC.new 16 16)
def c10 : CW := ⟨⟨2, 0, 0, 0, 1⟩, 0, [0], 0, 3, false⟩
theorem find10a : findF (copyC T10.1) 4 [] ⟨2, 0, 0, 0, 1⟩ 3 = (⟨0, 3, false, 0⟩, false, [c10]) := by kernel_rfl
theorem find10b : findF (copyC T10.1) 4 [c10] ⟨2, 0, 0, 0, 1⟩ 3 = (⟨0, 3, false, 0⟩, true, [c10]) := by kernel_rfl
theorem T10_key : T10.2 = ⟨2, 0, 0, 0, 1⟩ := by kernel_rfl
theorem lst3 (w : World) (x y z : Int) (t : TypeId) : Lst (w.alloc (.cells #[.int .i64 x, .int .i64 y, .int .i64 z] t)) w.heap.size 0 [x, y, z] := by
  have h := Row.new w #[.int .i64 x, .int .i64 y, .int .i64 z] t 3 (fun j => .int .i64 ([x, y, z].getD j 0)) rfl (fun i hi => by rcases (by omega : i = 0 ∨ i = 1 ∨ i = 2) with rfl | rfl | rfl <;> rfl)
  intro j v hv
  have hj : j < 3 := by
    have := (List.getElem?_eq_some_iff.1 hv).1
    simpa using this
  rw [Nat.zero_add, h.cell j hj, List.getD_eq_getElem?_getD, hv]
  rfl

/-- a box that lies ahead of the cache is one of the law's own -/
theorem Lk.addlow {w0 : World} {S : SA} {cb : Nat} {D : SC} {size hits : Int} {cs : List CW} {X : Nat → Prop} {W : World} (h : Lk w0 S cb D size hits cs X W) {g : Nat} (h1 : g < cb) (h2 : ¬ S.has g) : Lk w0 S cb D size hits cs (fun x => X x ∨ x = g) W := by
  obtain ⟨lo, l, ws, hc, a1, a2, a3⟩ := h.ca
  have hl := hc.lt
  have hw := h.cw
  refine ⟨h.sto, h.hS, h.bel, h.dB, h.cB, ?_, ⟨lo, l, ws, hc, a1, ?_, ?_⟩, h.s1, h.s64, h.len⟩
  · rintro x (hx | rfl)
    · exact h.hX x hx
    · exact ⟨by omega, by omega, h2⟩
  · rintro x (hx | rfl)
    · exact a2 x hx
    · intro e; have := (World.ownsRow.lt hc.row _ e).1; omega
  · rintro p hp x (hx | rfl)
    · exact a3 p hp x hx
    · intro e; have := ((hc.ns p hp).lt _ e).1; omega

set_option maxHeartbeats 1000000 in
theorem first10 (w : World) : Calls Tryd.prog 38 #[] w (TrueBelow w) := by
  obtain ⟨D, hD⟩ : ∃ D, D = copyC T10.1 := ⟨_, rfl⟩
  have MD := Lib.hid (fun (W : World) => show Calls Tryd.prog 46 #[.int .i64 1, .slice (some ⟨W.heap.size, 0, none⟩) 3 3] (W.alloc (.cells #[.int .i64 0, .int .i64 1, .int .i64 0] 3)) (fun e w' => ∃ S : SA, e = .returned (.tuple #[.pointer (some ⟨S.s, 0, none⟩), (⟨2, 0, 0, 0, 1⟩ : K).v]) ∧ LwS (W.alloc (.cells #[.int .i64 0, .int .i64 1, .int .i64 0] 3)) S D w') from by
    refine (made10_list 1 1 [0, 1, 0] W.heap.size 0 3 _ (by decide) (by decide) (lst3 W 0 1 0 3) (by decide) (by decide) (by simp)).mono ?_
    rintro e w' ⟨S, rfl, h1, h2, h3⟩
    exact ⟨S, by rw [← T10_key]; rfl, by rw [hD]; exact ⟨h1, h3, h2⟩⟩)
  have CN := Lib.hid (show ∀ W, Calls Tryd.prog 39 #[.int .i64 4] W (NewCa W 4) from fun W => cache_new 4 W (by omega) (by omega))
  have F1 := Lib.hid (fun (w0 : World) (S : SA) (cb : Nat) (X : Nat → Prop) (W : World) (h : Lk w0 S cb D 4 0 [] X W) => show Calls Tryd.prog 40 #[.pointer (some ⟨cb, 0, none⟩), .pointer (some ⟨S.s, 0, none⟩), (⟨2, 0, 0, 0, 1⟩ : K).v, .int .u32 3] W (fun e W' => e = .returned (.tuple #[.agg #[.int .i64 0, .int .i64 3, .bool false], .int .i64 0]) ∧ Lk w0 S cb D 4 0 [c10] X W' ∧ Keep X W W') from by
    have := lk_find ⟨2, 0, 0, 0, 1⟩ 3 h (by omega) (by omega) (by omega) (by omega)
    subst hD
    rw [find10a] at this
    exact this)
  have F2 := Lib.hid (fun (w0 : World) (S : SA) (cb : Nat) (X : Nat → Prop) (W : World) (h : Lk w0 S cb D 4 0 [c10] X W) => show Calls Tryd.prog 40 #[.pointer (some ⟨cb, 0, none⟩), .pointer (some ⟨S.s, 0, none⟩), (⟨2, 0, 0, 0, 1⟩ : K).v, .int .u32 3] W (fun e W' => e = .returned (.tuple #[.agg #[.int .i64 0, .int .i64 3, .bool false], .int .i64 0]) ∧ Lk w0 S cb D 4 1 [c10] X W' ∧ Keep X W W') from by
    have := lk_find ⟨2, 0, 0, 0, 1⟩ 3 h (by omega) (by omega) (by omega) (by omega)
    subst hD
    rw [find10b] at this
    exact this)
  clear hD
  go_enter Tryd.func38, Tryd.ntmps38
  go_wp2_with (fail)
  go_at_call 46
  refine (MD.out _).mono ?_
  rintro e w1 ⟨S, rfl, hs⟩
  have B0 : Below w.heap.size w (w.alloc (.cells #[.int .i64 0, .int .i64 1, .int .i64 0] 3)) := (Below.refl _ _).alloc (Nat.le_refl _) _
  have L1 := Lib.hid (show LwS w S D (w1.alloc (.cells #[.int .i64 2, .int .i64 0, .int .i64 0, .int .i64 0, .int .u32 1] 36)) from (⟨hs.sto, B0.trans (hs.bel.mono B0.size), fun x hx => Nat.le_trans B0.size (hs.dB x hx)⟩ : LwS w S D w1).alloc _)
  have RK := Lib.hid ((⟨2, 0, 0, 0, 1⟩ : K).box w1 36)
  have hs1 := Lib.hid hs
  clear hs B0 MD
  go_wp2_with (fail)
  go_at_call 39
  refine (CN.out _).mono ?_
  rintro e w2 ⟨cb, rfl, hcb, hc, hb2⟩
  have lS : ¬ S.has w1.heap.size := fun e => by have := hs1.out.sto.lt _ e; omega
  have L2 := Lib.hid ((Lk.start L1.out hc hcb hb2 (by omega) (by omega)).addlow (g := w1.heap.size) (by simp at hcb; omega) lS)
  have RK2 := Lib.hid (RK.out.below hb2)
  obtain ⟨c0, c1, c2, c3, c4⟩ := K.facts RK2.out
  clear hc hb2 CN RK
  go_wp2_with (fail)
  go_at_call 40
  refine (F1.out _ _ _ _ _ L2.out).mono ?_
  rintro e w3 ⟨rfl, hl3, hk3⟩
  have L3 := Lib.hid (hl3.alloc (.cells #[.int .i64 0, .int .i64 3, .bool false] 41))
  have RK3 := Lib.hid ((RK2.out.of_block (w' := w3) (hk3.2 _ (.inr rfl))).alloc (.cells #[.int .i64 0, .int .i64 3, .bool false] 41))
  clear hl3 hk3 c0 c1 c2 c3 c4
  obtain ⟨c0, c1, c2, c3, c4⟩ := K.facts RK3.out
  go_wp2_with (fail)
  go_at_call 40
  refine (F2.out _ _ _ _ _ L3.out).mono ?_
  rintro e w4 ⟨rfl, hl4, hk4⟩
  have L4 := Lib.hid (hl4.alloc (.cells #[.int .i64 0, .int .i64 3, .bool false] 41))
  have HT := Lib.hid (lk_hits L4.out)
  clear hl4 hk4 c0 c1 c2 c3 c4
  go_wp2_with (fail)
  go_at_call 42
  refine (HT.out).mono ?_
  rintro e w5 ⟨rfl, rfl⟩
  go_wp2
  go_ret
  exact ⟨rfl, L4.out.bel⟩
end Go.Proofs.YtdlemkmkheokkaaDoor
