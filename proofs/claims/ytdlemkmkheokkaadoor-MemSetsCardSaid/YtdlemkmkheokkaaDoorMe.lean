/- What 'made' copies out of the reference's system into a store, step by step. -/
import Derived.Test.YtdlemkmkheokkaaDoorXe
import Derived.Test.YtdlemkmkheokkaaDoorWg
import Derived.Test.YtdlemkmkheokkaaDoorWe
namespace Go.Proofs.YtdlemkmkheokkaaDoor
open Go.RowKit

def acPre (m : Nat) : AC := ⟨pre m, fun _ => 0, fun _ => false⟩
/-- pm pages made, nm nodes made, and of the slots those ahead of (i, j) set -/
def stC (C : YC) (pm nm i j : Nat) : SC :=
  ⟨C.n, acPre nm, fun a b => if (a < i ∨ a = i ∧ b < j) ∧ a < C.nm ∧ b < 16 then C.nk a b else K.zero, C.p, acPre pm, fun a b => if a < pm ∧ b < 32 then C.pw a b else 0⟩
def copyC (C : YC) : SC := ⟨C.n, acPre C.nm, fun a b => if a < C.nm ∧ b < 16 then C.nk a b else K.zero, C.p, acPre C.pm, fun a b => if a < C.pm ∧ b < 32 then C.pw a b else 0⟩

theorem acPre_take (m : Nat) : (acPre m).take m = acPre (m + 1) := by simp [acPre, AC.take, pre_up]
theorem acPre_zero : acPre 0 = AC.zero := by
  simp only [acPre, AC.zero, AC.mk.injEq, and_true]
  funext j
  simp [pre]
theorem acPre_th (m i : Nat) (h : i < m) : (acPre m).th i = true := by simp [acPre, pre, h]
theorem acPre_not (m i : Nat) (h : m ≤ i) : (acPre m).th i = false := by simp [acPre, pre]; omega

theorem stC_start (C : YC) : stC C 0 0 0 0 = SC.new C.n C.p := by
  simp only [stC, SC.new, acPre_zero, SC.mk.injEq, true_and]
  refine ⟨?_, ?_⟩
  · funext a b; rw [if_neg (by omega)]
  · funext a b; rw [if_neg (by omega)]
theorem stC_page (C : YC) (m : Nat) : { stC C m 0 0 0 with pa := (acPre m).take m, pw := up (stC C m 0 0 0).pw m (pageWords 32 (C.pw m)) } = stC C (m + 1) 0 0 0 := by
  simp only [stC, acPre_take, SC.mk.injEq, true_and]
  funext a b
  unfold up
  by_cases h : a = m
  · subst h; rw [if_pos rfl]; unfold pageWords
    by_cases hb : b < 32
    · rw [if_pos hb, if_pos ⟨by omega, hb⟩]
    · rw [if_neg hb, if_neg (by omega)]
  · rw [if_neg h]
    dsimp only
    by_cases hb : a < m ∧ b < 32
    · rw [if_pos hb, if_pos (by omega)]
    · rw [if_neg hb, if_neg (by omega)]
theorem stC_node (C : YC) (pm m : Nat) : { stC C pm m 0 0 with na := (acPre m).take m, nk := up (stC C pm m 0 0).nk m (nodeKeys 0 K.zero) } = stC C pm (m + 1) 0 0 := by
  simp only [stC, acPre_take, SC.mk.injEq, true_and, and_true]
  funext a b
  unfold up
  by_cases h : a = m
  · rw [if_pos h, if_neg (by omega)]; simp [nodeKeys]
  · rw [if_neg h]
theorem stC_set (C : YC) (pm nm i j : Nat) (hi : i < C.nm) (hj : j < 16) : { stC C pm nm i j with nk := up2 (stC C pm nm i j).nk i j (C.nk i j) } = stC C pm nm i (j + 1) := by
  simp only [stC, SC.mk.injEq, true_and, and_true]
  funext a b
  unfold up2
  by_cases h : a = i ∧ b = j
  · rw [if_pos h, if_pos (by omega)]; obtain ⟨rfl, rfl⟩ := h; rfl
  · rw [if_neg h]
    dsimp only
    by_cases hb : (a < i ∨ a = i ∧ b < j) ∧ a < C.nm ∧ b < 16
    · rw [if_pos hb, if_pos (by omega)]
    · rw [if_neg hb, if_neg (by omega)]
theorem stC_row (C : YC) (pm nm i j : Nat) (h : 16 ≤ j ∨ C.nm ≤ i) : stC C pm nm i j = stC C pm nm (i + 1) 0 := by
  simp only [stC, SC.mk.injEq, true_and, and_true]
  funext a b
  by_cases hb : (a < i ∨ a = i ∧ b < j) ∧ a < C.nm ∧ b < 16
  · rw [if_pos hb, if_pos (by omega)]
  · rw [if_neg hb, if_neg (by omega)]
theorem stC_end (C : YC) (i : Nat) (h : C.nm ≤ i) : stC C C.pm C.nm i 0 = copyC C := by
  simp only [stC, copyC, SC.mk.injEq, true_and, and_true]
  funext a b
  by_cases hb : a < C.nm ∧ b < 16
  · rw [if_pos hb, if_pos (by omega)]
  · rw [if_neg hb, if_neg (by omega)]

/-- what 'made' keeps while it copies -/
structure MkI (B : Nat) (w0 : World) (Y : YA) (C : YC) (bz bk : Nat) (k : K) (S : SA) (D : SC) (W : World) : Prop where
  sto : Sto W S D
  sy : Sy W Y C
  rz : Row W bz 5 K.zero.cell
  rk : Row W bk 5 k.cell
  bel : Below B w0 W
  bsz : B ≤ W.heap.size
  dY : ∀ x, Y.has x → ¬ S.has x
  dz : ¬ S.has bz
  dk : ¬ S.has bk
  dB : ∀ x, S.has x → B ≤ x
theorem MkI.step {B : Nat} {w0 : World} {Y : YA} {C : YC} {bz bk : Nat} {k : K} {S : SA} {D D' : SC} {W W' : World} (h : MkI B w0 Y C bz bk k S D W) {X : Nat → Prop} (o : Only X W W') (hX : ∀ x, X x → S.has x) (hs : Sto W' S D') : MkI B w0 Y C bz bk k S D' W' :=
  ⟨hs, h.sy.only o (fun x hx e => h.dY x hx (hX x e)), h.rz.only o (fun e => h.dz (hX _ e)), h.rk.only o (fun e => h.dk (hX _ e)), below_only h.bel h.bsz o (fun i _ e => h.dB i (hX i e)), Nat.le_trans h.bsz o.size, h.dY, h.dz, h.dk, h.dB⟩
theorem MkI.same {B : Nat} {w0 : World} {Y : YA} {C : YC} {bz bk : Nat} {k : K} {S : SA} {D : SC} {W W' : World} (h : MkI B w0 Y C bz bk k S D W) (n : Nat) (e : W' = W.drewN n) : MkI B w0 Y C bz bk k S D W' := by
  subst e
  exact h.step ((Only.refl (fun _ => False) W).drewN n) (fun _ h => h.elim) (h.sto.same rfl)

end Go.Proofs.YtdlemkmkheokkaaDoor
