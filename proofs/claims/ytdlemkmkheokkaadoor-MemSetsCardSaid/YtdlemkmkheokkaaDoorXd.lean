/- Contracts of the reference's MakePage. -/
import Derived.Test.YtdlemkmkheokkaaDoorXc
namespace Go.Proofs.YtdlemkmkheokkaaDoor
open Go.RowKit

/-- a page is made -/
def YC.page (C : YC) (m : Nat) (f : Nat → Int) : YC := { C with pm := C.pm + 1, pw := up C.pw C.pm (pageWords m f) }
def RMadeP (w : World) (Y : YA) (C : YC) (m : Nat) (f : Nat → Int) (e : Ending) (w' : World) : Prop :=
  e = .returned (.tuple #[.int .i64 C.pm, .int .i64 0]) ∧ Sy w' Y (C.page m f) ∧ Only (fun x => x = Y.ps ∨ x = Y.pb) w w'

theorem pageWords_next (pw : Nat → Nat → Int) (i j : Nat) (f : Nat → Int) (hj : j < 32) (x : Nat) :
    (if x = i * 32 + j then .int .u32 (f j) else wordCell (up pw i (pageWords j f)) x) = wordCell (up pw i (pageWords (j + 1) f)) x := by
  by_cases h : x = i * 32 + j
  · rw [if_pos h, h, wordCell_at _ _ _ hj, up_same]
    simp [pageWords]
  · rw [if_neg h]
    unfold wordCell
    by_cases h1 : x / 32 = i
    · rw [h1, up_same, up_same]
      have h2 : x % 32 ≠ j := by omega
      simp only [pageWords]
      by_cases h3 : x % 32 < j
      · rw [if_pos h3, if_pos (by omega)]
      · rw [if_neg h3, if_neg (by omega)]
    · rw [up_other _ _ _ _ h1, up_other _ _ _ _ h1]

theorem page_zero (pw : Nat → Nat → Int) (i : Nat) (f : Nat → Int) (x : Nat) :
    (if i * 32 ≤ x ∧ x < i * 32 + zs32.toList.length then zs32.toList.getD (x - i * 32) undef else wordCell pw x) = wordCell (up pw i (pageWords 0 f)) x := by
  have hl : zs32.toList.length = 32 := by rw [Array.length_toList, zs32_size]
  rw [hl]
  by_cases h : i * 32 ≤ x ∧ x < i * 32 + 32
  · have h1 : x / 32 = i := by omega
    have h2 : x - i * 32 < 32 := by omega
    rw [if_pos h]
    rw [List.getD_eq_getElem?_getD, Array.getElem?_toList, zs32_get _ h2]
    simp [wordCell, h1, up_same, pageWords]
  · have h1 : x / 32 ≠ i := by omega
    rw [if_neg h]
    simp [wordCell, up_other _ _ _ _ h1]

/-- the page behind its zero -/
theorem Sy.page0 {w : World} {Y : YA} {C : YC} (h : Sy w Y C) (hlt : C.pm < C.p) (f : Nat → Int) :
    Sy ((w.setCell ⟨Y.ps, C.pm * 4, none⟩ (.bool true)).setCells Y.pb (C.pm * 32) zs32.toList) Y (C.page 0 f) ∧ Only (fun x => x = Y.ps ∨ x = Y.pb) w ((w.setCell ⟨Y.ps, C.pm * 4, none⟩ (.bool true)).setCells Y.pb (C.pm * 32) zs32.toList) := by
  have o1 : Only (fun x => x = Y.ps ∨ x = Y.pb) w (w.setCell ⟨Y.ps, C.pm * 4, none⟩ (.bool true)) := (Only.refl _ _).setCell ⟨Y.ps, C.pm * 4, none⟩ _ (.inl (.inl rfl))
  have o2 : Only (fun x => x = Y.pb) (w.setCell ⟨Y.ps, C.pm * 4, none⟩ (.bool true)) ((w.setCell ⟨Y.ps, C.pm * 4, none⟩ (.bool true)).setCells Y.pb (C.pm * 32) zs32.toList) := (Only.refl _ _).setCells _ _ _ (.inl rfl)
  have o := o1.setCells Y.pb (C.pm * 32) zs32.toList (.inl (.inr rfl))
  obtain ⟨g, hr, hf⟩ := h.hd
  have hk := h.ok
  refine ⟨⟨⟨g, hr.only o (fun e => by rcases e with e | e; exact hk.bp e; exact hk.bw e), hf⟩, h.nr.only o (fun e => by rcases e with e | e; exact hk.np e; exact hk.nw e), ?_, h.kr.only o (fun e => by rcases e with e | e; exact hk.pk e.symm; exact hk.kw e), ?_, hk, h.n256, h.p256, h.nmn, by have := h.pmp; show C.pm + 1 ≤ C.p; omega⟩, o⟩
  · refine Row.only ((h.pr.set (C.pm * 4) (.bool true)).congr fun j _ => ?_) o2 hk.pw
    show (if j = C.pm * 4 then _ else _) = slotC (pre (C.pm + 1)) j
    rw [slotC_take, pre_up]
  · exact (Row.setCells zs32.toList (C.pm * 32) _ _ (h.wr.setOther ⟨Y.ps, C.pm * 4, none⟩ (.bool true) (fun e => hk.pw e.symm))).congr fun j _ => page_zero C.pw C.pm f j

/-- a word of the page that is made -/
theorem Sy.word {w : World} {Y : YA} {C : YC} {j : Nat} {f : Nat → Int} (h : Sy w Y (C.page j f)) (hj : j < 32) : Sy (w.setCell ⟨Y.pb, C.pm * 32 + j, none⟩ (.int .u32 (f j))) Y (C.page (j + 1) f) := by
  have o : Only (fun x => x = Y.pb) w (w.setCell ⟨Y.pb, C.pm * 32 + j, none⟩ (.int .u32 (f j))) := (Only.refl _ _).setCell ⟨Y.pb, C.pm * 32 + j, none⟩ _ (.inl rfl)
  have hk := h.ok
  obtain ⟨g, hr, hf⟩ := h.hd
  exact ⟨⟨g, hr.only o hk.bw, hf⟩, h.nr.only o hk.nw, h.pr.only o hk.pw, h.kr.only o hk.kw, (h.wr.set _ _).congr fun x _ => pageWords_next C.pw C.pm j f hj x, hk, h.n256, h.p256, h.nmn, h.pmp⟩

set_option maxRecDepth 100000 in
set_option maxHeartbeats 1600000 in
theorem rpmake (Y : YA) (C : YC) (m cp ab : Nat) (f : Nat → Int) (w : World) (h : Sy w Y C) (hlt : C.pm < C.p) (hm : m ≤ 32) (hab : Row w ab m (fun j => .int .u32 (f j))) (h1 : ab ≠ Y.ps) (h2 : ab ≠ Y.pb) :
    Calls Tryd.prog 88 #[.pointer (some ⟨Y.b, 0, none⟩), .slice (some ⟨ab, 0, none⟩) m cp] w (RMadeP w Y C m f) := by
  obtain ⟨cc, c1⟩ := h.c1
  have c7 := h.c7
  have hp := h.p256
  have TK := Lib.hid (show Calls Tryd.prog 100 #[.slice (some ⟨Y.ps, 0, none⟩) C.p cc] w fun e w' => e = .returned (.int .i64 (C.pm : Int)) ∧ w = w' from by
    have := take_any Y.ps C.p cc C.pm w h.pr h.pmp h.p256
    rwa [show takeF C.p C.pm = (C.pm : Int) by simp [takeF, hlt]] at this)
  have a0 := h.pr.cell (C.pm * 4) (by omega)
  rw [slotC_live] at a0
  have b0 := h.pr.frozen (C.pm * 4)
  have hbne : Y.b ≠ Y.ps := h.ok.bp
  have HTH : Hid ((w.setCell ⟨Y.ps, C.pm * 4, none⟩ (.bool true)).there Y.pb (C.pm * 32) zs32.size) := by
    rw [zs32_size]
    exact (h.wr.setOther ⟨Y.ps, C.pm * 4, none⟩ (.bool true) (fun e => h.ok.pw e.symm)).there (C.pm * 32) 32 (by omega)
  have H := Lib.hid h
  have HAB := Lib.hid hab
  clear h hab
  go_enter Tryd.func88, Tryd.ntmps88
  go_wp2_with (first | (go_at_call 100; refine (TK.out).mono ?_; rintro e w' ⟨rfl, rfl⟩) | (refine wpList_build_zero rfl 101 rfl (.agg zs32) build101 ?_) | (refine wpList_store_big rfl 101 (.tmp 31) (.tmp 30) rfl Y.pb (C.pm * 32) zs32 rfl rfl HTH.out size101z zs32_one ?_; intro W2 HW2))
  obtain ⟨sy0, on0⟩ := H.out.page0 hlt f
  rw [← HW2.out] at sy0 on0
  have SY0 := Lib.hid sy0
  have ON0 := Lib.hid on0
  clear sy0 on0 HW2
  go_loopw [7] (fun t wr => ∃ j : Nat, j ≤ m ∧ t = .int .i64 j ∧ Hid (Sy wr Y (C.page j f)) ∧ Hid (Only (fun x => x = Y.ps ∨ x = Y.pb) w wr)) (fun t _ => m - (intOf t).toNat)
  case atStart => exact ⟨0, by omega, rfl, SY0, ON0⟩
  case round =>
    obtain ⟨j, hj, rfl, SY, ON⟩ := hrel
    by_cases hjm : j < m
    · have d7 : wr.cell? ⟨Y.b, 7, none⟩ = some (.slice (some ⟨Y.pb, 0, none⟩) C.p C.p) := SY.out.c7
      have d1 := (HAB.out.only ON.out (by rintro (e | e); exact h1 e; exact h2 e)).cell j hjm
      have d2 := SY.out.wr.cell (C.pm * 32 + j) (show _ < C.p * 32 by omega)
      rw [wordCell_at _ _ _ (by omega)] at d2
      have d3 := SY.out.wr.frozen (C.pm * 32 + j)
      go_wp2
      go_region
      go_wp2
      go_roundw
      case rel =>
        refine ⟨j + 1, by omega, by go_num, ?_, ?_⟩
        · exact (SY.out.word (by omega)).same rfl
        · exact (ON.out.setCell ⟨Y.pb, C.pm * 32 + j, none⟩ _ (.inl (.inr rfl))).drew
      case measure => simp [intOf]; omega
    · have e : j = m := by omega
      have E := Lib.hid e
      clear e
      go_wp2
      go_ret2
      have e := E.out
      subst e
      exact ⟨rfl, SY.out, ON.out⟩

end Go.Proofs.YtdlemkmkheokkaaDoor
