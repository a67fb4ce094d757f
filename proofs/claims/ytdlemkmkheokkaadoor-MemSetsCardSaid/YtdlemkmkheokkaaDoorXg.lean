/- The contract of turnkeylaw9.first: it answers true. -/
import Derived.Test.YtdlemkmkheokkaaDoorXf
namespace Go.Proofs.YtdlemkmkheokkaaDoor
open Go.RowKit

def C9 : YC := (YC.new 24 24).page 2 (leafW 0)
def k9 : K := ⟨3, 0, 0, 0, 0⟩
theorem way9_32 : wayF (copyC C9) k9 32 = ⟨0, 0, false, 3, []⟩ := by kernel_rfl
theorem way9_31 : wayF (copyC C9) k9 31 = ⟨0, 31, false, 0, []⟩ := by kernel_rfl

def TrueBelow (w : World) (e : Ending) (w' : World) : Prop := e = .returned (.bool true) ∧ Below w.heap.size w w'

set_option maxHeartbeats 800000 in
theorem first9 (w : World) : Calls Tryd.prog 17 #[] w (TrueBelow w) := by
  obtain ⟨k, hk⟩ : ∃ k, k = k9 := ⟨_, rfl⟩
  have MD := Lib.hid (show ∀ W, Calls Tryd.prog 49 #[.int .i64 0, .slice none 0 0] W (Made9 W C9 k) from fun W => by rw [hk]; exact made9 0 none 0 0 C9 k9 W rfl rfl (fun a h => by have : a < 0 := h; omega) (fun V Y _ _ hy => tree0_yes Y (YC.new 24 24) 0 none 0 0 V hy (by omega) (by omega) (by show 0 < 24; omega)))
  have W32 := Lib.hid (show ∀ S W, Sto W S (copyC C9) → Calls Tryd.prog 23 #[.pointer (some ⟨S.s, 0, none⟩), k.v, .int .u32 32] W (WayP W ⟨0, 0, false, 3, []⟩) from fun S W hS => by rw [hk, ← way9_32]; exact way_any S (copyC C9) k9 32 W hS (by omega) (by omega))
  have W31 := Lib.hid (show ∀ S W, Sto W S (copyC C9) → Calls Tryd.prog 23 #[.pointer (some ⟨S.s, 0, none⟩), k.v, .int .u32 31] W (WayP W ⟨0, 31, false, 0, []⟩) from fun S W hS => by rw [hk, ← way9_31]; exact way_any S (copyC C9) k9 31 W hS (by omega) (by omega))
  clear hk
  go_enter Tryd.func17, Tryd.ntmps17
  go_wp2_with (fail)
  go_at_call 49
  refine (MD.out _).mono ?_
  rintro e w1 ⟨S, p, rfl, hs, _, hb1⟩
  have HS := Lib.hid hs
  have HB1 := Lib.hid hb1
  clear hs hb1
  go_wp2_with (fail)
  go_at_call 23
  refine (W32.out S _ (HS.out.below ((Below.refl _ _).alloc (Nat.le_refl _) _))).mono ?_
  rintro e w2 ⟨rfl, hb2⟩
  have hb12 : Below w1.heap.size w1 w2 := ((Below.refl _ w1).alloc (Nat.le_refl _) _).trans (hb2.mono (by simp))
  have HB2 := Lib.hid hb12
  have BX := Lib.hid ((k.box w1 36).below hb2)
  have HS2 := Lib.hid (HS.out.below hb12)
  obtain ⟨c0, c1, c2, c3, c4⟩ := K.facts BX.out
  have l2 := BX.out.lt
  clear hb2 hb12
  go_wp2_with (fail)
  go_at_call 23
  refine (W31.out S _ (HS2.out.below ((Below.refl _ _).alloc (Nat.le_refl _) _))).mono ?_
  rintro e w3 ⟨rfl, hb3⟩
  have HB3 := Lib.hid (((Below.refl _ w2).alloc (Nat.le_refl _) _).trans (hb3.mono (by simp)))
  clear hb3
  go_wp2
  go_ret
  exact ⟨rfl, ((HB1.out.trans (HB2.out.mono HB1.out.size)).trans (HB3.out.mono (Nat.le_trans HB1.out.size HB2.out.size))).alloc (by have := HB1.out.size; have := HB2.out.size; have := HB3.out.size; omega) _⟩

end Go.Proofs.YtdlemkmkheokkaaDoor
