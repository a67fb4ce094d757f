/- The contract of turnkeylaw11.first: it answers true. -/
import Derived.Test.YtdlemkmkheokkaaDoorNc
namespace Go.Proofs.YtdlemkmkheokkaaDoor
open Go.RowKit

def C11 : YC := (YC.new 16 16).page 2 (leafW 0)
def R11 : WR := ⟨0, 3, false, 0, []⟩
theorem way11 : wayF (copyC C11) k9 3 = R11 := by kernel_rfl
theorem way11s : wayF (saveD (copyC C11) R11 77) k9 3 = R11 := by
  rw [show saveD (copyC C11) R11 77 = { copyC C11 with pw := up2 (copyC C11).pw 0 3 77 } from rfl, way_pw, way11]
theorem load11 : loadV (saveD (copyC C11) R11 77) R11 = 77 := by
  show up2 (copyC C11).pw 0 3 77 0 3 = 77
  exact up2_same _ _ _ _

set_option maxHeartbeats 800000 in
theorem first11 (w : World) : Calls Tryd.prog 27 #[] w (TrueBelow w) := by
  obtain ⟨k, hk⟩ : ∃ k, k = k9 := ⟨_, rfl⟩
  obtain ⟨D, hD⟩ : ∃ D, D = copyC C11 := ⟨_, rfl⟩
  obtain ⟨D2, hD2⟩ : ∃ D2, D2 = saveD D R11 77 := ⟨_, rfl⟩
  have MD := Lib.hid (show ∀ W, Calls Tryd.prog 63 #[.int .i64 0, .slice none 0 0] W (Made11 W C11 k) from fun W => by rw [hk]; exact made11 0 none 0 0 C11 k9 W rfl rfl rfl (fun V Y _ _ hy => tree0_yes Y (YC.new 16 16) 0 none 0 0 V hy (by omega) (by omega) (by show 0 < 16; omega)))
  have SV := Lib.hid (fun (w0 : World) (S : SA) (cb mb : Nat) (X : Nat → Prop) (W : World) (h : Mm w0 S cb mb D 4 0 X W) => show Calls Tryd.prog 29 #[.pointer (some ⟨mb, 0, none⟩), k.v, .int .u32 3, .int .u32 77] W (fun e W' => e = .returned (.int .i64 0) ∧ Mm w0 S cb mb D2 4 1 X W' ∧ Keep X W W') from by
    have := mem_save k 3 77 h (by omega) (by omega) (by omega)
    rw [hk] at this ⊢
    rw [hD2]
    subst hD
    rw [way11] at this
    exact this)
  have LD := Lib.hid (fun (w0 : World) (S : SA) (cb mb : Nat) (X : Nat → Prop) (W : World) (h : Mm w0 S cb mb D2 4 1 X W) => show Calls Tryd.prog 32 #[.pointer (some ⟨mb, 0, none⟩), k.v, .int .u32 3] W (fun e W' => e = .returned (.tuple #[.int .u32 77, .int .i64 0]) ∧ Mm w0 S cb mb D2 4 2 X W' ∧ Keep X W W') from by
    have := mem_load k 3 h (by omega) (by omega) (by omega)
    rw [hk] at this ⊢
    subst hD2
    subst hD
    rw [way11s] at this
    unfold LoadM at this
    rw [load11] at this
    exact this)
  have HD := Lib.hid hD
  clear hD hD2 hk
  go_enter Tryd.func27, Tryd.ntmps27
  go_wp2_with (fail)
  go_at_call 63
  refine (MD.out _).mono ?_
  rintro e w1 ⟨S, cb, mb, yb, rfl, hm⟩
  rw [← HD.out] at hm
  have M1 := Lib.hid (hm.mm.new (.cells #[.int .i64 k.kind, .int .i64 k.id, .int .i64 k.ver, .int .i64 k.rights, .int .u32 k.data] 36))
  have RK := Lib.hid (k.box w1 36)
  clear hm
  go_wp2_with (fail)
  go_at_call 29
  refine (SV.out _ _ _ _ _ _ M1.out).mono ?_
  rintro e w2 ⟨rfl, hm2, hk2⟩
  have RK2 := Lib.hid (RK.out.of_block (w' := w2) (hk2.2 _ (.inr rfl)))
  obtain ⟨c0, c1, c2, c3, c4⟩ := K.facts RK2.out
  have M2 := Lib.hid hm2
  clear hm2 hk2
  go_wp2_with (fail)
  go_at_call 32
  refine (LD.out _ _ _ _ _ _ M2.out).mono ?_
  rintro e w3 ⟨rfl, hm3, hk3⟩
  have B3 := Lib.hid hm3.bel
  clear hm3 hk3
  go_wp2
  go_ret
  exact ⟨rfl, B3.out⟩

end Go.Proofs.YtdlemkmkheokkaaDoor
