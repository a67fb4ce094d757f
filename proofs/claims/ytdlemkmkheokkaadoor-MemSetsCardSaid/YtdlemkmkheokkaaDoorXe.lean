/- The reference's Tree of no height: a page. -/
import Derived.Test.YtdlemkmkheokkaaDoorXd
namespace Go.Proofs.YtdlemkmkheokkaaDoor
open Go.RowKit

def YA.X (Y : YA) (x : Nat) : Prop := x = Y.ps ∨ x = Y.pb ∨ x = Y.ns ∨ x = Y.nb
def TreeP (w : World) (Y : YA) (C' : YC) (k : K) (e : Ending) (w' : World) : Prop := e = .returned k.v ∧ Sy w' Y C' ∧ Only Y.X w w'
def leafW (n : Nat) : Nat → Int := fun j => if j = 0 then n else 5

theorem key_only' {w W : World} {b : Nat} {X : Nat → Prop} (h : Only X w W) (hb : X b ∨ w.heap.size ≤ b) (a0 a1 a2 a3 a4 : Value) :
    Only X w (((((W.setCell ⟨b, 0, none⟩ a0).setCell ⟨b, 1, none⟩ a1).setCell ⟨b, 2, none⟩ a2).setCell ⟨b, 3, none⟩ a3).setCell ⟨b, 4, none⟩ a4) :=
  ((((h.setCell ⟨b, 0, none⟩ _ hb).setCell ⟨b, 1, none⟩ _ hb).setCell ⟨b, 2, none⟩ _ hb).setCell ⟨b, 3, none⟩ _ hb).setCell ⟨b, 4, none⟩ _ hb

set_option maxHeartbeats 800000 in
theorem tree0_yes (Y : YA) (C : YC) (h : Int) (A : Option Addr) (n cap : Nat) (w : World) (hy : Sy w Y C) (h0 : h ≤ 0) (hn : n ≤ 1000) (hlt : C.pm < C.p) :
    Calls Tryd.prog 74 #[.pointer (some ⟨Y.b, 0, none⟩), .int .i64 h, .slice A n cap] w (TreeP w Y (C.page 2 (leafW n)) ⟨3, C.pm, 0, 0, 0⟩) := by
  have H := Lib.hid hy
  clear hy
  go_enter Tryd.func74, Tryd.ntmps74
  go_wp2_with (fail)
  go_at_call 88
  have hb0 : Below w.heap.size w ((w.alloc (.cells #[.int .i64 0, .int .i64 0, .int .i64 0, .int .i64 0, .int .u32 0] 36)).alloc (.cells #[.int .u32 n, .int .u32 5] 34)) := ((Below.refl _ w).alloc (Nat.le_refl _) _).alloc (by simp) _
  have hab : Row ((w.alloc (.cells #[.int .i64 0, .int .i64 0, .int .i64 0, .int .i64 0, .int .u32 0] 36)).alloc (.cells #[.int .u32 n, .int .u32 5] 34)) (w.heap.size + 1) 2 (fun j => .int .u32 (leafW n j)) := by
    have := Row.new (w.alloc (.cells #[.int .i64 0, .int .i64 0, .int .i64 0, .int .i64 0, .int .u32 0] 36)) #[.int .u32 n, .int .u32 5] 34 2 (fun j => .int .u32 (leafW n j)) rfl (fun i hi => by rcases (by omega : i = 0 ∨ i = 1) with rfl | rfl <;> rfl)
    rwa [World.size_alloc] at this
  have l1 := H.out.lt Y.ps (.inr (.inr (.inl rfl)))
  have l2 := H.out.lt Y.pb (.inr (.inr (.inr (.inr rfl))))
  refine (rpmake Y C 2 2 (w.heap.size + 1) (leafW n) _ (H.out.below hb0) hlt (by omega) hab (by omega) (by omega)).mono ?_
  rintro e w1 ⟨rfl, hs, ho⟩
  have bx := (((K.zero.box w 36).alloc (.cells #[.int .u32 n, .int .u32 5] 34)).only ho (by omega))
  have HS := Lib.hid hs
  have HO := Lib.hid ho
  have HB0 := Lib.hid hb0
  have lw := ho.size
  simp only [World.size_alloc] at lw
  have BX := Lib.hid bx
  clear hs ho hb0 hab l1 l2 bx
  go_wp2_with (fail)
  go_at_call 89
  refine (skey_page Y _ C.pm w1 HS.out (by show C.pm < C.pm + 1; omega)).mono ?_
  rintro e w2 ⟨rfl, hb2⟩
  have bx := BX.out.below hb2
  obtain ⟨c0, c1, c2, c3, c4⟩ := (show w2.cell? ⟨w.heap.size, 0, none⟩ = _ ∧ w2.cell? ⟨w.heap.size, 1, none⟩ = _ ∧ w2.cell? ⟨w.heap.size, 2, none⟩ = _ ∧ w2.cell? ⟨w.heap.size, 3, none⟩ = _ ∧ w2.cell? ⟨w.heap.size, 4, none⟩ = _ from ⟨bx.cell 0 (by omega), bx.cell 1 (by omega), bx.cell 2 (by omega), bx.cell 3 (by omega), bx.cell 4 (by omega)⟩)
  have f0 := bx.frozen 0
  have f1 := bx.frozen 1
  have f2 := bx.frozen 2
  have f3 := bx.frozen 3
  have f4 := bx.frozen 4
  have HB2 := Lib.hid hb2
  clear bx hb2
  go_wp2
  refine bodyPost_ret (v := .agg #[.int .i64 3, .int .i64 C.pm, .int .i64 0, .int .i64 0, .int .u32 0]) (by simp [results, Tryd.results74, go_sem, c0, c1, c2, c3, c4]) rfl ⟨rfl, ?_, ?_⟩
  · exact (HS.out.below HB2.out).only (key_only' (X := fun x => x = w.heap.size) (Only.refl _ _) (.inl rfl) _ _ _ _ _) (fun x hx e => by have := H.out.lt x hx; omega)
  · refine key_only' (((Only.of_below _ HB0.out).trans (HO.out.mono fun x _ e => ?_)).trans (Only.of_below _ HB2.out)) (.inr (Nat.le_refl _)) _ _ _ _ _
    rcases e with e | e
    · exact .inl e
    · exact .inr (.inl e)

end Go.Proofs.YtdlemkmkheokkaaDoor
