/- Contracts of the nodes' Set, of Fits. -/
import Derived.Test.YtdlemkmkheokkaaDoorWc
import Derived.Test.YtdlemkmkheokkaaDoorWd
namespace Go.Proofs.YtdlemkmkheokkaaDoor
open Go.RowKit

def SetK (w : World) (A : NA) (n : Nat) (c : AC) (nk : Nat → Nat → K) (id i : Nat) (k : K) (e : Ending) (w' : World) : Prop :=
  e = .returned .nilIface ∧ No w' A n c (up2 nk id i k) ∧ Only (fun x => x = A.k) w w'

theorem No.setSlot {w : World} {A : NA} {n : Nat} {c : AC} {nk : Nat → Nat → K} (h : No w A n c nk) (id i : Nat) (k : K) (hi : i < 16) :
    No (((((w.setCell ⟨A.k, id * 80 + i * 5, none⟩ (k.cell 0)).setCell ⟨A.k, id * 80 + i * 5 + 1, none⟩ (k.cell 1)).setCell ⟨A.k, id * 80 + i * 5 + 2, none⟩ (k.cell 2)).setCell ⟨A.k, id * 80 + i * 5 + 3, none⟩ (k.cell 3)).setCell ⟨A.k, id * 80 + i * 5 + 4, none⟩ (k.cell 4)) A n c (up2 nk id i k) :=
  ⟨((((h.hd.setOther _ _ h.ok.bk).setOther _ _ h.ok.bk).setOther _ _ h.ok.bk).setOther _ _ h.ok.bk).setOther _ _ h.ok.bk,
   ⟨((((h.ar.hd.setOther _ _ h.ok.ak).setOther _ _ h.ok.ak).setOther _ _ h.ok.ak).setOther _ _ h.ok.ak).setOther _ _ h.ok.ak,
    ((((h.ar.row.setOther _ _ h.ok.lk).setOther _ _ h.ok.lk).setOther _ _ h.ok.lk).setOther _ _ h.ok.lk).setOther _ _ h.ok.lk⟩,
   (((((h.ks.set _ _).set _ _).set _ _).set _ _).set _ _).congr fun j _ => slotCell_set nk id i k hi j, h.ok⟩

set_option maxHeartbeats 1600000 in
theorem set_yes (A : NA) (n : Nat) (c : AC) (nk : Nat → Nat → K) (id i : Nat) (k : K) (w : World) (h : No w A n c nk) (hn : n ≤ 1000) (hid : id < n) (hth : c.th id = true) (hi : i < 16) (hk : okK k) :
    Calls Tryd.prog 24 #[.pointer (some ⟨A.b, 0, none⟩), .int .i64 id, .int .i64 i, k.v] w (SetK w A n c nk id i k) := by
  have ct := there_any A.a A.l n c id (w.alloc (.cells #[.int .i64 k.kind, .int .i64 k.id, .int .i64 k.ver, .int .i64 k.rights, .int .u32 k.data] 36)) (h.ar.below ((Below.refl _ _).alloc (Nat.le_refl _) _)) hn
  have e : thereB n c.th id = true := by simp [thereB, hid, hth]
  rw [e] at ct
  have st := slot_any i
  have e2 : slotB i = true := by simp [slotB]; omega
  rw [e2] at st
  have CT := Lib.hid ct
  have ST := Lib.hid st
  have VT := Lib.hid (fun W => valid_any k W hk)
  have h1 := h.p0
  have l1 := h.hd.lt
  have l2 := h.ks.lt
  have H := Lib.hid h
  clear ct e st e2 hth h
  go_enter Tryd.func24, Tryd.ntmps24
  go_wp2_with (first | (go_at_call 53; refine (CT.out).mono ?_; rintro e w' ⟨rfl, rfl⟩) | (go_at_call 58; refine (ST.out _).mono ?_; rintro e w' ⟨rfl, rfl⟩))
  go_at_call 59
  refine (VT.out _).mono ?_
  rintro e w1 ⟨rfl, hb1⟩
  have hb : Below w.heap.size w w1 := ((Below.refl _ w).alloc (Nat.le_refl _) _).trans (hb1.mono (by simp))
  have h' := H.out.below hb
  have g1 := h'.p1
  have c0 := h'.slot id i 0 hid hi (by omega)
  have c1 := h'.slot id i 1 hid hi (by omega)
  have c2 := h'.slot id i 2 hid hi (by omega)
  have c3 := h'.slot id i 3 hid hi (by omega)
  have c4 := h'.slot id i 4 hid hi (by omega)
  simp only [K.cell, Nat.add_zero] at c0 c1 c2 c3 c4
  have f0 := h'.ks.frozen (id * 80 + i * 5)
  have f1 := h'.ks.frozen (id * 80 + i * 5 + 1)
  have f2 := h'.ks.frozen (id * 80 + i * 5 + 2)
  have f3 := h'.ks.frozen (id * 80 + i * 5 + 3)
  have f4 := h'.ks.frozen (id * 80 + i * 5 + 4)
  have bx := (k.box w 36).below hb1
  have b0 := bx.cell 0 (by omega)
  have b1 := bx.cell 1 (by omega)
  have b2 := bx.cell 2 (by omega)
  have b3 := bx.cell 3 (by omega)
  have b4 := bx.cell 4 (by omega)
  simp only [K.cell] at b0 b1 b2 b3 b4
  have hs := hb1.size
  simp only [World.size_alloc] at hs
  have BX := Lib.hid bx
  have H' := Lib.hid h'
  have HB := Lib.hid hb
  have L0 : w.heap.size ≠ A.k := by omega
  clear bx h' hb hb1
  go_wp2
  go_region
  go_wp2
  go_ret
  refine ⟨rfl, (H'.out.setSlot id i k hi).same rfl, ?_⟩
  exact Only.drew (((((((Only.of_below (fun x => x = A.k) HB.out).setCell ⟨A.k, id * 80 + i * 5, none⟩ _ (.inl rfl)).setCell ⟨A.k, id * 80 + i * 5 + 1, none⟩ _ (.inl rfl)).setCell ⟨A.k, id * 80 + i * 5 + 2, none⟩ _ (.inl rfl)).setCell ⟨A.k, id * 80 + i * 5 + 3, none⟩ _ (.inl rfl)).setCell ⟨A.k, id * 80 + i * 5 + 4, none⟩ _ (.inl rfl)))

end Go.Proofs.YtdlemkmkheokkaaDoor
