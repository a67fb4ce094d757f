/- Contracts of the reference's MakeNode, and of MakePage, MakeNode, Tree where there is no room. -/
import Derived.Test.YtdlemkmkheokkaaDoorXe
import Derived.Test.YtdlemkmkheokkaaDoorWk
namespace Go.Proofs.YtdlemkmkheokkaaDoor
open Go.RowKit

/-- a node is made, of no keys -/
def YC.node (C : YC) : YC := { C with nm := C.nm + 1, nk := up C.nk C.nm fun _ => K.zero }
def RMadeN (w : World) (Y : YA) (C : YC) (e : Ending) (w' : World) : Prop :=
  e = .returned (.tuple #[.int .i64 C.nm, .int .i64 0]) ∧ Sy w' Y C.node ∧ Only (fun x => x = Y.ns ∨ x = Y.nb) w w'
theorem node_zero (nk : Nat → Nat → K) (i : Nat) (x : Nat) :
    (if i * 80 ≤ x ∧ x < i * 80 + zs80.toList.length then zs80.toList.getD (x - i * 80) undef else slotCell nk x) = slotCell (up nk i fun _ => K.zero) x := by
  have hl : zs80.toList.length = 80 := by rw [Array.length_toList, zs80_size]
  rw [hl]
  by_cases h : i * 80 ≤ x ∧ x < i * 80 + 80
  · have h1 : x / 80 = i := by omega
    have h2 : x - i * 80 < 80 := by omega
    have h3 : (x - i * 80) % 5 = x % 5 := by omega
    rw [if_pos h]
    rw [List.getD_eq_getElem?_getD, Array.getElem?_toList, zs80_get _ h2]
    simp [slotCell, h1, up_same, h3]
  · have h1 : x / 80 ≠ i := by omega
    rw [if_neg h]
    simp [slotCell, up_other _ _ _ _ h1]
theorem Sy.node0 {w : World} {Y : YA} {C : YC} (h : Sy w Y C) (hlt : C.nm < C.n) :
    Sy ((w.setCell ⟨Y.ns, C.nm * 4, none⟩ (.bool true)).setCells Y.nb (C.nm * 80) zs80.toList) Y C.node ∧ Only (fun x => x = Y.ns ∨ x = Y.nb) w ((w.setCell ⟨Y.ns, C.nm * 4, none⟩ (.bool true)).setCells Y.nb (C.nm * 80) zs80.toList) := by
  have o1 : Only (fun x => x = Y.ns ∨ x = Y.nb) w (w.setCell ⟨Y.ns, C.nm * 4, none⟩ (.bool true)) := (Only.refl _ _).setCell ⟨Y.ns, C.nm * 4, none⟩ _ (.inl (.inl rfl))
  have o2 : Only (fun x => x = Y.nb) (w.setCell ⟨Y.ns, C.nm * 4, none⟩ (.bool true)) ((w.setCell ⟨Y.ns, C.nm * 4, none⟩ (.bool true)).setCells Y.nb (C.nm * 80) zs80.toList) := (Only.refl _ _).setCells _ _ _ (.inl rfl)
  have o := o1.setCells Y.nb (C.nm * 80) zs80.toList (.inl (.inr rfl))
  obtain ⟨g, hr, hf⟩ := h.hd
  have hk := h.ok
  refine ⟨⟨⟨g, hr.only o (fun e => by rcases e with e | e; exact hk.bn e; exact hk.bk e), hf⟩, ?_, h.pr.only o (fun e => by rcases e with e | e; exact hk.np e.symm; exact hk.pk e), ?_, h.wr.only o (fun e => by rcases e with e | e; exact hk.nw e.symm; exact hk.kw e.symm), hk, h.n256, h.p256, by show C.nm + 1 ≤ C.n; omega, h.pmp⟩, o⟩
  · refine Row.only ((h.nr.set (C.nm * 4) (.bool true)).congr fun j _ => ?_) o2 hk.nk
    show (if j = C.nm * 4 then _ else _) = slotC (pre (C.nm + 1)) j
    rw [slotC_take, pre_up]
  · exact (Row.setCells zs80.toList (C.nm * 80) _ _ (h.kr.setOther ⟨Y.ns, C.nm * 4, none⟩ (.bool true) (fun e => hk.nk e.symm))).congr fun j _ => node_zero C.nk C.nm j

set_option maxRecDepth 100000 in
set_option maxHeartbeats 1600000 in
theorem rnmake (Y : YA) (C : YC) (w : World) (h : Sy w Y C) (hlt : C.nm < C.n) : Calls Tryd.prog 90 #[.pointer (some ⟨Y.b, 0, none⟩), .slice none 0 0] w (RMadeN w Y C) := by
  obtain ⟨cc, c1⟩ := h.c0
  have c7 := h.c6
  have hp := h.n256
  have TK := Lib.hid (show Calls Tryd.prog 100 #[.slice (some ⟨Y.ns, 0, none⟩) C.n cc] w fun e w' => e = .returned (.int .i64 (C.nm : Int)) ∧ w = w' from by
    have := take_any Y.ns C.n cc C.nm w h.nr h.nmn h.n256
    rwa [show takeF C.n C.nm = (C.nm : Int) by simp [takeF, hlt]] at this)
  have a0 := h.nr.cell (C.nm * 4) (by omega)
  rw [slotC_live] at a0
  have b0 := h.nr.frozen (C.nm * 4)
  have hbne : Y.b ≠ Y.ns := h.ok.bn
  have HTH : Hid ((w.setCell ⟨Y.ns, C.nm * 4, none⟩ (.bool true)).there Y.nb (C.nm * 80) zs80.size) := by
    rw [zs80_size]
    exact (h.kr.setOther ⟨Y.ns, C.nm * 4, none⟩ (.bool true) (fun e => h.ok.nk e.symm)).there (C.nm * 80) 80 (by omega)
  have H := Lib.hid h
  clear h
  go_enter Tryd.func90, Tryd.ntmps90
  go_wp2_with (fail)
  go_loopw [6] (fun t wr => t = .int .i64 0 ∧ wr = w) (fun _ _ => 0)
  case atStart => exact ⟨rfl, rfl⟩
  case round =>
    obtain ⟨rfl, rfl⟩ := hrel
    go_wp2_with (first | (go_at_call 100; refine (TK.out).mono ?_; rintro e w' ⟨rfl, rfl⟩) | (refine wpList_build_zero rfl 109 rfl (.agg zs80) build109 ?_) | (refine wpList_store_big rfl 109 (.tmp 47) (.tmp 46) rfl Y.nb (C.nm * 80) zs80 rfl rfl HTH.out size109z zs80_one ?_; intro W2 HW2))
    obtain ⟨sy0, on0⟩ := H.out.node0 hlt
    rw [← HW2.out] at sy0 on0
    have SY0 := Lib.hid sy0
    have ON0 := Lib.hid on0
    clear sy0 on0 HW2
    go_loopw [9] (fun t wr => t = .int .i64 0 ∧ wr = W2) (fun _ _ => 0)
    case atStart => exact ⟨rfl, rfl⟩
    case round =>
      obtain ⟨rfl, rfl⟩ := hrel
      go_wp2
      go_ret2
      exact ⟨rfl, SY0.out, ON0.out⟩
set_option maxHeartbeats 1600000 in
theorem rnmake_no (Y : YA) (C : YC) (w : World) (h : Sy w Y C) (hlt : ¬ C.nm < C.n) : Calls Tryd.prog 90 #[.pointer (some ⟨Y.b, 0, none⟩), .slice none 0 0] w fun e w' => e = .returned (.tuple #[.int .i64 0, .int .i64 106]) ∧ w = w' := by
  obtain ⟨cc, c1⟩ := h.c0
  have TK := Lib.hid (show Calls Tryd.prog 100 #[.slice (some ⟨Y.ns, 0, none⟩) C.n cc] w fun e w' => e = .returned (.int .i64 (-1)) ∧ w = w' from by
    have := take_any Y.ns C.n cc C.nm w h.nr h.nmn h.n256
    rwa [show takeF C.n C.nm = -1 by simp [takeF, hlt]] at this)
  clear h hlt
  go_enter Tryd.func90, Tryd.ntmps90
  go_wp2_with (fail)
  go_loopw [6] (fun t wr => t = .int .i64 0 ∧ wr = w) (fun _ _ => 0)
  case atStart => exact ⟨rfl, rfl⟩
  case round =>
    obtain ⟨rfl, rfl⟩ := hrel
    go_wp2_with (go_at_call 100; refine (TK.out).mono ?_; rintro e w' ⟨rfl, rfl⟩)
    go_ret2
    exact ⟨rfl, rfl⟩
set_option maxHeartbeats 1600000 in
theorem rpmake_no (Y : YA) (C : YC) (A : Option Addr) (m cp : Nat) (w : World) (h : Sy w Y C) (hlt : ¬ C.pm < C.p) (hm : m ≤ 32) : Calls Tryd.prog 88 #[.pointer (some ⟨Y.b, 0, none⟩), .slice A m cp] w fun e w' => e = .returned (.tuple #[.int .i64 0, .int .i64 106]) ∧ w = w' := by
  obtain ⟨cc, c1⟩ := h.c1
  have TK := Lib.hid (show Calls Tryd.prog 100 #[.slice (some ⟨Y.ps, 0, none⟩) C.p cc] w fun e w' => e = .returned (.int .i64 (-1)) ∧ w = w' from by
    have := take_any Y.ps C.p cc C.pm w h.pr h.pmp h.p256
    rwa [show takeF C.p C.pm = -1 by simp [takeF, hlt]] at this)
  clear h hlt
  go_enter Tryd.func88, Tryd.ntmps88
  go_wp2_with (go_at_call 100; refine (TK.out).mono ?_; rintro e w' ⟨rfl, rfl⟩)
  go_ret2
  exact ⟨rfl, rfl⟩

/-- a leaf: a page, or nothing where there is no room -/
def leafF (C : YC) (len : Nat) : YC × K := if C.pm < C.p then (C.page 2 (leafW len), ⟨3, C.pm, 0, 0, 0⟩) else (C, K.zero)
set_option maxHeartbeats 800000 in
theorem leaf_any (Y : YA) (C : YC) (h : Int) (A : Option Addr) (n cap : Nat) (w : World) (hy : Sy w Y C) (h0 : h ≤ 0) (hn : n ≤ 1000) :
    Calls Tryd.prog 74 #[.pointer (some ⟨Y.b, 0, none⟩), .int .i64 h, .slice A n cap] w (TreeP w Y (leafF C n).1 (leafF C n).2) := by
  by_cases hlt : C.pm < C.p
  · have := tree0_yes Y C h A n cap w hy h0 hn hlt
    unfold leafF
    rw [if_pos hlt]
    exact this
  · have e : leafF C n = (C, K.zero) := by unfold leafF; rw [if_neg hlt]
    rw [e]
    have H := Lib.hid hy
    have NO := Lib.hid (fun A (W : World) (hW : Sy W Y C) => rpmake_no Y C A 2 2 W hW hlt (by omega))
    clear hy hlt e
    go_enter Tryd.func74, Tryd.ntmps74
    go_wp2_with (fail)
    go_at_call 88
    have hb0 : Below w.heap.size w ((w.alloc (.cells #[.int .i64 0, .int .i64 0, .int .i64 0, .int .i64 0, .int .u32 0] 36)).alloc (.cells #[.int .u32 n, .int .u32 5] 34)) := ((Below.refl _ w).alloc (Nat.le_refl _) _).alloc (by simp) _
    refine (NO.out _ _ (H.out.below hb0)).mono ?_
    rintro e w1 ⟨rfl, rfl⟩
    have BX := (K.zero.box w 36).alloc (.cells #[.int .u32 n, .int .u32 5] 34)
    obtain ⟨c0, c1, c2, c3, c4⟩ := K.facts BX
    have HB := Lib.hid hb0
    clear hb0 BX
    go_wp2
    refine bodyPost_ret (v := .agg #[.int .i64 0, .int .i64 0, .int .i64 0, .int .i64 0, .int .u32 0]) (by simp [results, Tryd.results74, go_sem]) rfl ⟨rfl, ?_, ?_⟩
    · exact H.out.below HB.out
    · exact Only.of_below _ HB.out

/-! ### Tree -/
def YC.put (C : YC) (i s : Nat) (k : K) : YC := { C with nk := up2 C.nk i s k }
/-- what becomes of a lower tree's key -/
def adjF (m h : Int) (x : K) : K :=
  if m = 3 ∧ x.kind = 2 then { x with data := h } else if m = 4 ∧ x.kind ≠ 0 then { x with rights := 1 } else if m = 5 ∧ x.kind ≠ 0 then { x with rights := 4 } else x
def lowF (m h : Int) : Int := if m = 1 ∨ m = 4 then 0 else h - 1
def roundF (T : Int → List Int → YC → YC × K) (h : Int) (nid : Nat) (a b : Int) (l : List Int) (C : YC) : YC :=
  if b.tmod 6 < 1 then C
  else (T (lowF (b.tmod 6) h) (b :: l) C).1.put nid (bits .and .i64 a 15).toNat (adjF (b.tmod 6) h (T (lowF (b.tmod 6) h) (b :: l) C).2)
def loopF (T : Int → List Int → YC → YC × K) (h : Int) (nid : Nat) : Nat → List Int → YC → YC
  | r + 1, a :: b :: l, C => loopF T h nid r l (roundF T h nid a b l C)
  | _, _, C => C
/-- what Tree makes, and the key -/
def treeF : Nat → Int → List Int → YC → YC × K
  | 0, _, l, C => leafF C l.length
  | n + 1, h, l, C =>
    if h < 1 then leafF C l.length
    else if C.nm < C.n then (loopF (treeF n) h C.nm 4 l C.node, ⟨2, C.nm, 0, 0, h⟩)
    else (C, K.zero)

theorem loop_out (T : Int → List Int → YC → YC × K) (h : Int) (nid : Nat) (l : List Int) (C : YC) : loopF T h nid 0 l C = C := by cases l <;> simp [loopF]
theorem loop_short (T : Int → List Int → YC → YC × K) (h : Int) (nid r : Nat) (l : List Int) (C : YC) (hl : l.length ≤ 1) : loopF T h nid r l C = C := by
  cases r with
  | zero => exact loop_out T h nid l C
  | succ r =>
    match l, hl with
    | [], _ => rfl
    | [_], _ => rfl
/-- how two contents differ -/
structure YC.le (C C' : YC) : Prop where
  n : C'.n = C.n
  p : C'.p = C.p
  nm : C.nm ≤ C'.nm
theorem YC.le.refl (C : YC) : C.le C := ⟨rfl, rfl, Nat.le_refl _⟩
theorem YC.le.trans {A B C : YC} (h : A.le B) (k : B.le C) : A.le C := ⟨k.n.trans h.n, k.p.trans h.p, Nat.le_trans h.nm k.nm⟩
theorem leaf_le (C : YC) (n : Nat) : C.le (leafF C n).1 := by
  unfold leafF
  split
  · exact ⟨rfl, rfl, Nat.le_refl _⟩
  · exact YC.le.refl C
theorem loop_le (T : Int → List Int → YC → YC × K) (hT : ∀ (h : Int) (l : List Int) (C : YC), C.le (T h l C).1) (h : Int) (nid : Nat) : ∀ (r : Nat) (l : List Int) (C : YC), C.le (loopF T h nid r l C)
  | 0, l, C => by rw [loop_out]; exact YC.le.refl C
  | r + 1, [], C => YC.le.refl C
  | r + 1, [_], C => YC.le.refl C
  | r + 1, a :: b :: l, C => by
    refine YC.le.trans ?_ (loop_le T hT h nid r l (roundF T h nid a b l C))
    unfold roundF
    split
    · exact YC.le.refl C
    · exact (hT _ _ C).trans ⟨rfl, rfl, Nat.le_refl _⟩
theorem tree_le : ∀ (n : Nat) (h : Int) (l : List Int) (C : YC), C.le (treeF n h l C).1
  | 0, _, l, C => leaf_le C l.length
  | n + 1, h, l, C => by
    unfold treeF
    split
    · exact leaf_le C l.length
    · split
      · exact YC.le.trans (B := C.node) ⟨rfl, rfl, Nat.le_succ _⟩ (loop_le (treeF n) (tree_le n) h C.nm 4 l C.node)
      · exact YC.le.refl C
theorem node_le (C : YC) : C.le C.node := ⟨rfl, rfl, Nat.le_succ _⟩

theorem Sy.put {w : World} {Y : YA} {C : YC} (h : Sy w Y C) (i s : Nat) (k : K) (hs : s < 16) :
    Sy (((((w.setCell ⟨Y.nb, i * 80 + s * 5, none⟩ (k.cell 0)).setCell ⟨Y.nb, i * 80 + s * 5 + 1, none⟩ (k.cell 1)).setCell ⟨Y.nb, i * 80 + s * 5 + 2, none⟩ (k.cell 2)).setCell ⟨Y.nb, i * 80 + s * 5 + 3, none⟩ (k.cell 3)).setCell ⟨Y.nb, i * 80 + s * 5 + 4, none⟩ (k.cell 4)) Y (C.put i s k) ∧
    Only (fun x => x = Y.nb) w (((((w.setCell ⟨Y.nb, i * 80 + s * 5, none⟩ (k.cell 0)).setCell ⟨Y.nb, i * 80 + s * 5 + 1, none⟩ (k.cell 1)).setCell ⟨Y.nb, i * 80 + s * 5 + 2, none⟩ (k.cell 2)).setCell ⟨Y.nb, i * 80 + s * 5 + 3, none⟩ (k.cell 3)).setCell ⟨Y.nb, i * 80 + s * 5 + 4, none⟩ (k.cell 4)) := by
  have o : Only (fun x => x = Y.nb) w (((((w.setCell ⟨Y.nb, i * 80 + s * 5, none⟩ (k.cell 0)).setCell ⟨Y.nb, i * 80 + s * 5 + 1, none⟩ (k.cell 1)).setCell ⟨Y.nb, i * 80 + s * 5 + 2, none⟩ (k.cell 2)).setCell ⟨Y.nb, i * 80 + s * 5 + 3, none⟩ (k.cell 3)).setCell ⟨Y.nb, i * 80 + s * 5 + 4, none⟩ (k.cell 4)) :=
    (((((Only.refl (fun x : Nat => x = Y.nb) w).setCell ⟨Y.nb, i * 80 + s * 5, none⟩ _ (.inl rfl)).setCell ⟨Y.nb, i * 80 + s * 5 + 1, none⟩ _ (.inl rfl)).setCell ⟨Y.nb, i * 80 + s * 5 + 2, none⟩ _ (.inl rfl)).setCell ⟨Y.nb, i * 80 + s * 5 + 3, none⟩ _ (.inl rfl)).setCell ⟨Y.nb, i * 80 + s * 5 + 4, none⟩ _ (.inl rfl)
  obtain ⟨g, hr, hf⟩ := h.hd
  have hk := h.ok
  exact ⟨⟨⟨g, hr.only o hk.bk, hf⟩, h.nr.only o hk.nk, h.pr.only o hk.pk, (((((h.kr.set _ _).set _ _).set _ _).set _ _).set _ _).congr fun j _ => slotCell_set C.nk i s k hs j, h.wr.only o (fun e => hk.kw e.symm), hk, h.n256, h.p256, h.nmn, h.pmp⟩, o⟩

/-- at Tree's loop -/
structure TrI (w : World) (Y : YA) (C : YC) (W : World) : Prop where
  sy : Sy W Y C
  on : Only Y.X w W
  rz : Row W w.heap.size 5 K.zero.cell
  lt : ∀ x, Y.X x → x < w.heap.size
theorem TrI.step {w W W' : World} {Y : YA} {C C' : YC} (h : TrI w Y C W) (hs : Sy W' Y C') (o : Only Y.X W W') : TrI w Y C' W' :=
  ⟨hs, h.on.trans o, h.rz.only o (fun e => Nat.lt_irrefl _ (h.lt _ e)), h.lt⟩
theorem TrI.below {w W W' : World} {Y : YA} {C : YC} (h : TrI w Y C W) (b : Below W.heap.size W W') : TrI w Y C W' := h.step (h.sy.below b) (Only.of_below _ b)
theorem YA.X_has {Y : YA} {x : Nat} (h : Y.X x) : Y.has x := by
  rcases h with rfl | rfl | rfl | rfl
  · exact .inr (.inr (.inl rfl))
  · exact .inr (.inr (.inr (.inr rfl)))
  · exact .inr (.inl rfl)
  · exact .inr (.inr (.inr (.inl rfl)))
end Go.Proofs.YtdlemkmkheokkaaDoor
