/- The contract of the reference's Tree, of any height. -/
import Derived.Test.YtdlemkmkheokkaaDoorTa
import Derived.Test.YtdlemkmkheokkaaDoorMf
namespace Go.Proofs.YtdlemkmkheokkaaDoor
open Go.RowKit

/-- the list's numbers in memory -/
def Lst (w : World) (g off : Nat) (l : List Int) : Prop := ∀ (j : Nat) (z : Int), l[j]? = some z → w.cell? ⟨g, off + j, none⟩ = some (.int .i64 z)
theorem Lst.of {w w' : World} {g off : Nat} {l : List Int} (h : Lst w g off l) (e : w'.heap[g]? = w.heap[g]?) : Lst w' g off l := fun j z hz => (World.cell?_of_block (w := w) (w' := w') (a := ⟨g, off + j, none⟩) e).trans (h j z hz)

set_option maxRecDepth 100000 in
set_option maxHeartbeats 4000000 in
theorem tree_step (Y : YA) (n : Nat) (ih : ∀ (h : Int) (l : List Int) (C : YC) (w : World) (g off cap : Nat), h ≤ n → h ≤ 4 → Sy w Y C → Lst w g off l → l.length ≤ 1000 → l.length ≤ cap → ¬ Y.X g → g < w.heap.size →
    Calls Tryd.prog 74 #[.pointer (some ⟨Y.b, 0, none⟩), .int .i64 h, .slice (some ⟨g, off, none⟩) l.length cap] w (TreeP w Y (treeF n h l C).1 (treeF n h l C).2))
    (h : Int) (l : List Int) (C : YC) (w : World) (g off cap : Nat) (hn : h ≤ (n + 1 : Nat)) (h4 : h ≤ 4) (hy : Sy w Y C) (hL : Lst w g off l) (hl : l.length ≤ 1000) (hc : l.length ≤ cap) (hg : ¬ Y.X g) (hgl : g < w.heap.size) :
    Calls Tryd.prog 74 #[.pointer (some ⟨Y.b, 0, none⟩), .int .i64 h, .slice (some ⟨g, off, none⟩) l.length cap] w (TreeP w Y (treeF (n + 1) h l C).1 (treeF (n + 1) h l C).2) := by
    have IH := Lib.hid ih
    clear ih
    by_cases h1 : h < 1
    · have e : treeF (n + 1) h l C = leafF C l.length := by unfold treeF; rw [if_pos h1]
      rw [e]
      exact leaf_any Y C h _ l.length cap w hy (by omega) hl
    · by_cases hlt : C.nm < C.n
      · obtain ⟨Cf, hCf⟩ : ∃ Cf, Cf = loopF (treeF n) h C.nm 4 l C.node := ⟨_, rfl⟩
        have e : treeF (n + 1) h l C = (Cf, ⟨2, C.nm, 0, 0, h⟩) := by unfold treeF; rw [if_neg h1, if_pos hlt, hCf]
        rw [e]
        clear e
        have h1' : 1 ≤ h := by omega
        have hn' : h - 1 ≤ (n : Int) := by push_cast at hn; omega
        have hb1 : (h < 1) = False := by simp; omega
        obtain ⟨len, hlen⟩ : ∃ len, len = l.length := ⟨_, rfl⟩
        have HLEN := Lib.hid hlen
        rw [← hlen] at hl hc ⊢
        have HL := Lib.hid hL
        have HG := Lib.hid hg
        have HY := Lib.hid hy
        have HCF := Lib.hid hCf
        have HLT := Lib.hid hlt
        have RN := Lib.hid (fun V (hV : Sy V Y C) => rnmake Y C V hV hlt)
        clear hL hg hy hCf hlt h1 hn hlen hb1
        go_enter Tryd.func74, Tryd.ntmps74
        go_wp2_with (fail)
        go_at_call 90
        refine (RN.out _ (HY.out.below ((Below.refl _ w).alloc (Nat.le_refl _) _))).mono ?_
        rintro e w1 ⟨rfl, hs1, ho1⟩
        have I0 : Hid (TrI w Y C.node w1) := by
          have ob : Only Y.X w (w.alloc (.cells #[.int .i64 0, .int .i64 0, .int .i64 0, .int .i64 0, .int .u32 0] 36)) := Only.of_below _ ((Below.refl _ w).alloc (Nat.le_refl _) _)
          have o : Only Y.X (w.alloc (.cells #[.int .i64 0, .int .i64 0, .int .i64 0, .int .i64 0, .int .u32 0] 36)) w1 := ho1.mono fun x _ e => by
            rcases e with e | e
            · exact .inr (.inr (.inl e))
            · exact .inr (.inr (.inr e))
          exact ⟨hs1, ob.trans o, (K.zero.box w 36).only o (fun e => Nat.lt_irrefl _ (HY.out.lt _ (YA.X_has e))), fun x hx => HY.out.lt x (YA.X_has hx)⟩
        clear hs1 ho1 RN
        go_wp2_with (fail)
        go_loopw [11] (fun t wr => ∃ (i : Nat) (Cj : YC), i ≤ 8 ∧ i % 2 = 0 ∧ t = .int .i64 i ∧ loopF (treeF n) h C.nm ((8 - i) / 2) (l.drop i) Cj = Cf ∧ Hid (TrI w Y Cj wr) ∧ C.node.le Cj) (fun t _ => 10 - (intOf t).toNat)
        case atStart => exact ⟨0, C.node, by omega, rfl, rfl, by rw [HCF.out]; rfl, I0, YC.le.refl _⟩
        case round =>
          clear I0
          obtain ⟨i, Cj, hi8, hi2, rfl, hfin, I, hlj⟩ := hrel
          have HFIN := Lib.hid hfin
          have HLJ := Lib.hid hlj
          clear hfin hlj
          by_cases hcond : i + 1 < len ∧ i < 8
          · obtain ⟨hc1, hc2⟩ := hcond
            obtain ⟨a, b, rest, hdr⟩ : ∃ a b rest, l.drop i = a :: b :: rest := by
              have h1 : i < l.length := by rw [← HLEN.out]; omega
              have h2 : i + 1 < l.length := by rw [← HLEN.out]; omega
              exact ⟨l[i], l[i + 1], l.drop (i + 2), by rw [List.drop_eq_getElem_cons h1, List.drop_eq_getElem_cons h2]⟩
            have HDR := Lib.hid hdr
            have hga : l[i]? = some a := by have := congrArg (·[0]?) hdr; simpa using this
            have hgb : l[i + 1]? = some b := by have := congrArg (·[1]?) hdr; simpa using this
            have hr2 : l.drop (i + 1) = b :: rest := by rw [← List.drop_drop, hdr]; rfl
            have hr3 : l.drop (i + 2) = rest := by rw [← List.drop_drop, hdr]; rfl
            have HRN := Lib.hid (show (b :: rest).length = len - (i + 1) by rw [← hr2, List.length_drop, HLEN.out])
            have hLr := HL.out.of (w' := wr) (I.out.on.block g hgl HG.out)
            have d0 := hLr i a hga
            have d1 := hLr (i + 1) b hgb
            have HRL := Lib.hid (show Lst wr g (off + (i + 1)) (b :: rest) from fun j z hz => by
              rw [← hr2, List.getElem?_drop] at hz
              have := hLr (i + 1 + j) z hz
              rwa [show off + (i + 1 + j) = off + (i + 1) + j by omega] at this)
            have HRC := Lib.hid (show (b :: rest).length ≤ cap - (i + 1) by rw [HRN.out]; omega)
            have HR3 := Lib.hid hr3
            obtain ⟨s, hs, hs16⟩ : ∃ s : Nat, bits .and .i64 a 15 = (s : Int) ∧ s < 16 := ⟨(a % 16).toNat, by rw [and15]; omega, by omega⟩
            have HS := Lib.hid hs
            have hcap : ¬ cap = i + 1 := by omega
            obtain ⟨m, hm⟩ : ∃ m, b.tmod 6 = m := ⟨_, rfl⟩
            have t6 : m < 6 := hm ▸ Int.tmod_lt_of_pos b (by decide)
            clear hdr hga hgb hr2 hr3 hLr
            by_cases hm0 : m < 1
            · have HM0 := Lib.hid (show b.tmod 6 < 1 by rw [hm]; exact hm0)
              have q1 : (m == 1) = false := by simp; omega
              have q4 : (m == 4) = false := by simp; omega
              have qd : decide (m < 1) = true := by simpa using hm0
              clear hm0 t6
              go_wp2
              go_roundw
              case rel =>
                refine ⟨i + 2, Cj, by omega, by omega, by go_num, ?_, I, HLJ.out⟩
                have := HFIN.out
                rw [HDR.out, show (8 - i) / 2 = (8 - (i + 2)) / 2 + 1 by omega, loopF] at this
                rw [← this, HR3.out]
                unfold roundF
                rw [if_pos HM0.out]
              case measure => simp [intOf]; omega
            · rcases (show m = 1 ∨ m = 2 ∨ m = 3 ∨ m = 4 ∨ m = 5 by omega) with rfl | rfl | rfl | rfl | rfl
              · clear hm0 t6
                have HM := Lib.hid hm
                have HTR0 : ∃ r, r = treeF n (0) (b :: rest) Cj := ⟨_, rfl⟩
                obtain ⟨⟨C1, xk, xi, xv, xr, xd⟩, htr⟩ := HTR0
                have HTR := Lib.hid (show treeF n (lowF 1 h) (b :: rest) Cj = (C1, ⟨xk, xi, xv, xr, xd⟩) from htr.symm)
                have hle1 : Cj.le C1 := by have := tree_le n (0) (b :: rest) Cj; rwa [← htr] at this
                have HLE := Lib.hid (HLJ.out.trans hle1)
                have CT := Lib.hid (show Calls Tryd.prog 74 #[.pointer (some ⟨Y.b, 0, none⟩), .int .i64 (0), .slice (some ⟨g, off + (i + 1), none⟩) (len - (i + 1)) (cap - (i + 1))] wr (TreeP wr Y C1 ⟨xk, xi, xv, xr, xd⟩) from by
                  have := IH.out (0) (b :: rest) Cj wr g (off + (i + 1)) (cap - (i + 1)) (by omega) (by omega) I.out.sy HRL.out (by rw [HRN.out]; omega) HRC.out HG.out (by have := I.out.on.size; omega)
                  rw [← htr, HRN.out] at this
                  exact this)
                clear htr hle1
                go_wp2_with (fail)
                go_at_call 74
                refine (CT.out).mono ?_
                rintro e w5 ⟨rfl, hy5, ho5⟩
                have T5 := Lib.hid (I.out.step hy5 ho5)
                clear hy5 ho5 CT d0 d1
                have HXX := Lib.hid (show adjF 1 h ⟨xk, xi, xv, xr, xd⟩ = ⟨xk, xi, xv, xr, xd⟩ by simp [adjF])
                obtain ⟨wz, hwz⟩ : ∃ wz, wz = w5.alloc (.cells #[.int .i64 xk, .int .i64 xi, .int .i64 xv, .int .i64 xr, .int .u32 xd] 36) := ⟨_, rfl⟩
                have T6 := Lib.hid (show TrI w Y C1 wz by rw [hwz]; exact T5.out.below ((Below.refl _ w5).alloc (Nat.le_refl _) _))
                have RX := Lib.hid (show Row wz w5.heap.size 5 (⟨xk, xi, xv, xr, xd⟩ : K).cell by rw [hwz]; exact (⟨xk, xi, xv, xr, xd⟩ : K).box w5 36)
                have HWZ := Lib.hid hwz
                clear hwz
                have c6 := T6.out.sy.c6
                obtain ⟨x0, x1, x2, x3, x4⟩ := K.facts RX.out
                have hn1 := HLE.out.n
                have hnn := T6.out.sy.n256
                have hnm1 := HLE.out.nm
                have hnm2 : C.node.nm = C.nm + 1 := rfl
                have hnmn := T6.out.sy.nmn
                have g0 := T6.out.sy.kr.cell (C.nm * 80 + s * 5) (by omega)
                have g1 := T6.out.sy.kr.cell (C.nm * 80 + s * 5 + 1) (by omega)
                have g2 := T6.out.sy.kr.cell (C.nm * 80 + s * 5 + 2) (by omega)
                have g3 := T6.out.sy.kr.cell (C.nm * 80 + s * 5 + 3) (by omega)
                have g4 := T6.out.sy.kr.cell (C.nm * 80 + s * 5 + 4) (by omega)
                have f0 := T6.out.sy.kr.frozen (C.nm * 80 + s * 5)
                have f1 := T6.out.sy.kr.frozen (C.nm * 80 + s * 5 + 1)
                have f2 := T6.out.sy.kr.frozen (C.nm * 80 + s * 5 + 2)
                have f3 := T6.out.sy.kr.frozen (C.nm * 80 + s * 5 + 3)
                have f4 := T6.out.sy.kr.frozen (C.nm * 80 + s * 5 + 4)
                have nlt : C.nm < C1.n := by omega
                clear hn1 hnm1 hnm2 hnmn
                go_wp2_with (fail)
                rw [← HWZ.out]
                go_region
                obtain ⟨P1, P2⟩ := T6.out.sy.put C.nm s ⟨xk, xi, xv, xr, xd⟩ hs16
                have T7 := Lib.hid ((T6.out.step P1 (P2.mono fun _ _ e => .inr (.inr (.inr e)))).below (Below.refl _ _).drew)
                clear P1 P2 c6 x0 x1 x2 x3 x4 g0 g1 g2 g3 g4 f0 f1 f2 f3 f4
                go_wp2
                go_roundw
                case rel =>
                  refine ⟨i + 2, C1.put C.nm s ⟨xk, xi, xv, xr, xd⟩, by omega, by omega, by go_num, ?_, T7.out, HLE.out.trans ⟨rfl, rfl, Nat.le_refl _⟩⟩
                  have := HFIN.out
                  rw [HDR.out, show (8 - i) / 2 = (8 - (i + 2)) / 2 + 1 by omega, loopF] at this
                  rw [← this, HR3.out]
                  congr 1
                  unfold roundF
                  rw [HM.out, if_neg (by decide), HTR.out]
                  show YC.put _ _ _ _ = YC.put _ _ (bits .and .i64 a 15).toNat (adjF 1 h ⟨xk, xi, xv, xr, xd⟩)
                  rw [HXX.out, HS.out, Int.toNat_natCast]
                case measure => simp [intOf]; omega
              · clear hm0 t6
                have HM := Lib.hid hm
                have HTR0 : ∃ r, r = treeF n (h - 1) (b :: rest) Cj := ⟨_, rfl⟩
                obtain ⟨⟨C1, xk, xi, xv, xr, xd⟩, htr⟩ := HTR0
                have HTR := Lib.hid (show treeF n (lowF 2 h) (b :: rest) Cj = (C1, ⟨xk, xi, xv, xr, xd⟩) from htr.symm)
                have hle1 : Cj.le C1 := by have := tree_le n (h - 1) (b :: rest) Cj; rwa [← htr] at this
                have HLE := Lib.hid (HLJ.out.trans hle1)
                have CT := Lib.hid (show Calls Tryd.prog 74 #[.pointer (some ⟨Y.b, 0, none⟩), .int .i64 (h - 1), .slice (some ⟨g, off + (i + 1), none⟩) (len - (i + 1)) (cap - (i + 1))] wr (TreeP wr Y C1 ⟨xk, xi, xv, xr, xd⟩) from by
                  have := IH.out (h - 1) (b :: rest) Cj wr g (off + (i + 1)) (cap - (i + 1)) (by omega) (by omega) I.out.sy HRL.out (by rw [HRN.out]; omega) HRC.out HG.out (by have := I.out.on.size; omega)
                  rw [← htr, HRN.out] at this
                  exact this)
                clear htr hle1
                go_wp2_with (fail)
                go_at_call 74
                refine (CT.out).mono ?_
                rintro e w5 ⟨rfl, hy5, ho5⟩
                have T5 := Lib.hid (I.out.step hy5 ho5)
                clear hy5 ho5 CT d0 d1
                have HXX := Lib.hid (show adjF 2 h ⟨xk, xi, xv, xr, xd⟩ = ⟨xk, xi, xv, xr, xd⟩ by simp [adjF])
                obtain ⟨wz, hwz⟩ : ∃ wz, wz = w5.alloc (.cells #[.int .i64 xk, .int .i64 xi, .int .i64 xv, .int .i64 xr, .int .u32 xd] 36) := ⟨_, rfl⟩
                have T6 := Lib.hid (show TrI w Y C1 wz by rw [hwz]; exact T5.out.below ((Below.refl _ w5).alloc (Nat.le_refl _) _))
                have RX := Lib.hid (show Row wz w5.heap.size 5 (⟨xk, xi, xv, xr, xd⟩ : K).cell by rw [hwz]; exact (⟨xk, xi, xv, xr, xd⟩ : K).box w5 36)
                have HWZ := Lib.hid hwz
                clear hwz
                have c6 := T6.out.sy.c6
                obtain ⟨x0, x1, x2, x3, x4⟩ := K.facts RX.out
                have hn1 := HLE.out.n
                have hnn := T6.out.sy.n256
                have hnm1 := HLE.out.nm
                have hnm2 : C.node.nm = C.nm + 1 := rfl
                have hnmn := T6.out.sy.nmn
                have g0 := T6.out.sy.kr.cell (C.nm * 80 + s * 5) (by omega)
                have g1 := T6.out.sy.kr.cell (C.nm * 80 + s * 5 + 1) (by omega)
                have g2 := T6.out.sy.kr.cell (C.nm * 80 + s * 5 + 2) (by omega)
                have g3 := T6.out.sy.kr.cell (C.nm * 80 + s * 5 + 3) (by omega)
                have g4 := T6.out.sy.kr.cell (C.nm * 80 + s * 5 + 4) (by omega)
                have f0 := T6.out.sy.kr.frozen (C.nm * 80 + s * 5)
                have f1 := T6.out.sy.kr.frozen (C.nm * 80 + s * 5 + 1)
                have f2 := T6.out.sy.kr.frozen (C.nm * 80 + s * 5 + 2)
                have f3 := T6.out.sy.kr.frozen (C.nm * 80 + s * 5 + 3)
                have f4 := T6.out.sy.kr.frozen (C.nm * 80 + s * 5 + 4)
                have nlt : C.nm < C1.n := by omega
                clear hn1 hnm1 hnm2 hnmn
                go_wp2_with (fail)
                rw [← HWZ.out]
                go_region
                obtain ⟨P1, P2⟩ := T6.out.sy.put C.nm s ⟨xk, xi, xv, xr, xd⟩ hs16
                have T7 := Lib.hid ((T6.out.step P1 (P2.mono fun _ _ e => .inr (.inr (.inr e)))).below (Below.refl _ _).drew)
                clear P1 P2 c6 x0 x1 x2 x3 x4 g0 g1 g2 g3 g4 f0 f1 f2 f3 f4
                go_wp2
                go_roundw
                case rel =>
                  refine ⟨i + 2, C1.put C.nm s ⟨xk, xi, xv, xr, xd⟩, by omega, by omega, by go_num, ?_, T7.out, HLE.out.trans ⟨rfl, rfl, Nat.le_refl _⟩⟩
                  have := HFIN.out
                  rw [HDR.out, show (8 - i) / 2 = (8 - (i + 2)) / 2 + 1 by omega, loopF] at this
                  rw [← this, HR3.out]
                  congr 1
                  unfold roundF
                  rw [HM.out, if_neg (by decide), HTR.out]
                  show YC.put _ _ _ _ = YC.put _ _ (bits .and .i64 a 15).toNat (adjF 2 h ⟨xk, xi, xv, xr, xd⟩)
                  rw [HXX.out, HS.out, Int.toNat_natCast]
                case measure => simp [intOf]; omega
              · clear hm0 t6
                have HM := Lib.hid hm
                have HTR0 : ∃ r, r = treeF n (h - 1) (b :: rest) Cj := ⟨_, rfl⟩
                obtain ⟨⟨C1, xk, xi, xv, xr, xd⟩, htr⟩ := HTR0
                have HTR := Lib.hid (show treeF n (lowF 3 h) (b :: rest) Cj = (C1, ⟨xk, xi, xv, xr, xd⟩) from htr.symm)
                have hle1 : Cj.le C1 := by have := tree_le n (h - 1) (b :: rest) Cj; rwa [← htr] at this
                have HLE := Lib.hid (HLJ.out.trans hle1)
                have CT := Lib.hid (show Calls Tryd.prog 74 #[.pointer (some ⟨Y.b, 0, none⟩), .int .i64 (h - 1), .slice (some ⟨g, off + (i + 1), none⟩) (len - (i + 1)) (cap - (i + 1))] wr (TreeP wr Y C1 ⟨xk, xi, xv, xr, xd⟩) from by
                  have := IH.out (h - 1) (b :: rest) Cj wr g (off + (i + 1)) (cap - (i + 1)) (by omega) (by omega) I.out.sy HRL.out (by rw [HRN.out]; omega) HRC.out HG.out (by have := I.out.on.size; omega)
                  rw [← htr, HRN.out] at this
                  exact this)
                clear htr hle1
                go_wp2_with (fail)
                go_at_call 74
                refine (CT.out).mono ?_
                rintro e w5 ⟨rfl, hy5, ho5⟩
                have T5 := Lib.hid (I.out.step hy5 ho5)
                clear hy5 ho5 CT d0 d1
                by_cases hk : xk = 2
                · subst hk
                  have HXX := Lib.hid (show adjF 3 h ⟨2, xi, xv, xr, xd⟩ = ⟨2, xi, xv, xr, h⟩ by simp [adjF])
                  obtain ⟨wz, hwz⟩ : ∃ wz, wz = w5.alloc (.cells #[.int .i64 2, .int .i64 xi, .int .i64 xv, .int .i64 xr, .int .u32 h] 36) := ⟨_, rfl⟩
                  have T6 := Lib.hid (show TrI w Y C1 wz by rw [hwz]; exact T5.out.below ((Below.refl _ w5).alloc (Nat.le_refl _) _))
                  have RX := Lib.hid (show Row wz w5.heap.size 5 (⟨2, xi, xv, xr, h⟩ : K).cell by rw [hwz]; exact (⟨2, xi, xv, xr, h⟩ : K).box w5 36)
                  have HWZ := Lib.hid hwz
                  clear hwz
                  have c6 := T6.out.sy.c6
                  obtain ⟨x0, x1, x2, x3, x4⟩ := K.facts RX.out
                  have hn1 := HLE.out.n
                  have hnn := T6.out.sy.n256
                  have hnm1 := HLE.out.nm
                  have hnm2 : C.node.nm = C.nm + 1 := rfl
                  have hnmn := T6.out.sy.nmn
                  have g0 := T6.out.sy.kr.cell (C.nm * 80 + s * 5) (by omega)
                  have g1 := T6.out.sy.kr.cell (C.nm * 80 + s * 5 + 1) (by omega)
                  have g2 := T6.out.sy.kr.cell (C.nm * 80 + s * 5 + 2) (by omega)
                  have g3 := T6.out.sy.kr.cell (C.nm * 80 + s * 5 + 3) (by omega)
                  have g4 := T6.out.sy.kr.cell (C.nm * 80 + s * 5 + 4) (by omega)
                  have f0 := T6.out.sy.kr.frozen (C.nm * 80 + s * 5)
                  have f1 := T6.out.sy.kr.frozen (C.nm * 80 + s * 5 + 1)
                  have f2 := T6.out.sy.kr.frozen (C.nm * 80 + s * 5 + 2)
                  have f3 := T6.out.sy.kr.frozen (C.nm * 80 + s * 5 + 3)
                  have f4 := T6.out.sy.kr.frozen (C.nm * 80 + s * 5 + 4)
                  have nlt : C.nm < C1.n := by omega
                  clear hn1 hnm1 hnm2 hnmn
                  go_wp2_with (fail)
                  rw [← HWZ.out]
                  go_region
                  obtain ⟨P1, P2⟩ := T6.out.sy.put C.nm s ⟨2, xi, xv, xr, h⟩ hs16
                  have T7 := Lib.hid ((T6.out.step P1 (P2.mono fun _ _ e => .inr (.inr (.inr e)))).below (Below.refl _ _).drew)
                  clear P1 P2 c6 x0 x1 x2 x3 x4 g0 g1 g2 g3 g4 f0 f1 f2 f3 f4
                  go_wp2
                  go_roundw
                  case rel =>
                    refine ⟨i + 2, C1.put C.nm s ⟨2, xi, xv, xr, h⟩, by omega, by omega, by go_num, ?_, T7.out, HLE.out.trans ⟨rfl, rfl, Nat.le_refl _⟩⟩
                    have := HFIN.out
                    rw [HDR.out, show (8 - i) / 2 = (8 - (i + 2)) / 2 + 1 by omega, loopF] at this
                    rw [← this]
                    congr 1
                    unfold roundF
                    rw [HM.out, if_neg (by decide), HTR.out]
                    show YC.put _ _ _ _ = YC.put _ _ (bits .and .i64 a 15).toNat (adjF 3 h ⟨2, xi, xv, xr, xd⟩)
                    rw [HXX.out, HS.out, Int.toNat_natCast]
                  case measure => simp [intOf]; omega
                · have hkb : (xk == 2) = false := by simpa using hk
                  have HXX := Lib.hid (show adjF 3 h ⟨xk, xi, xv, xr, xd⟩ = ⟨xk, xi, xv, xr, xd⟩ by simp [adjF, hk])
                  obtain ⟨wz, hwz⟩ : ∃ wz, wz = w5.alloc (.cells #[.int .i64 xk, .int .i64 xi, .int .i64 xv, .int .i64 xr, .int .u32 xd] 36) := ⟨_, rfl⟩
                  have T6 := Lib.hid (show TrI w Y C1 wz by rw [hwz]; exact T5.out.below ((Below.refl _ w5).alloc (Nat.le_refl _) _))
                  have RX := Lib.hid (show Row wz w5.heap.size 5 (⟨xk, xi, xv, xr, xd⟩ : K).cell by rw [hwz]; exact (⟨xk, xi, xv, xr, xd⟩ : K).box w5 36)
                  have HWZ := Lib.hid hwz
                  clear hwz
                  have c6 := T6.out.sy.c6
                  obtain ⟨x0, x1, x2, x3, x4⟩ := K.facts RX.out
                  have hn1 := HLE.out.n
                  have hnn := T6.out.sy.n256
                  have hnm1 := HLE.out.nm
                  have hnm2 : C.node.nm = C.nm + 1 := rfl
                  have hnmn := T6.out.sy.nmn
                  have g0 := T6.out.sy.kr.cell (C.nm * 80 + s * 5) (by omega)
                  have g1 := T6.out.sy.kr.cell (C.nm * 80 + s * 5 + 1) (by omega)
                  have g2 := T6.out.sy.kr.cell (C.nm * 80 + s * 5 + 2) (by omega)
                  have g3 := T6.out.sy.kr.cell (C.nm * 80 + s * 5 + 3) (by omega)
                  have g4 := T6.out.sy.kr.cell (C.nm * 80 + s * 5 + 4) (by omega)
                  have f0 := T6.out.sy.kr.frozen (C.nm * 80 + s * 5)
                  have f1 := T6.out.sy.kr.frozen (C.nm * 80 + s * 5 + 1)
                  have f2 := T6.out.sy.kr.frozen (C.nm * 80 + s * 5 + 2)
                  have f3 := T6.out.sy.kr.frozen (C.nm * 80 + s * 5 + 3)
                  have f4 := T6.out.sy.kr.frozen (C.nm * 80 + s * 5 + 4)
                  have nlt : C.nm < C1.n := by omega
                  clear hn1 hnm1 hnm2 hnmn
                  go_wp2_with (fail)
                  rw [← HWZ.out]
                  go_region
                  obtain ⟨P1, P2⟩ := T6.out.sy.put C.nm s ⟨xk, xi, xv, xr, xd⟩ hs16
                  have T7 := Lib.hid ((T6.out.step P1 (P2.mono fun _ _ e => .inr (.inr (.inr e)))).below (Below.refl _ _).drew)
                  clear P1 P2 c6 x0 x1 x2 x3 x4 g0 g1 g2 g3 g4 f0 f1 f2 f3 f4
                  go_wp2
                  go_roundw
                  case rel =>
                    refine ⟨i + 2, C1.put C.nm s ⟨xk, xi, xv, xr, xd⟩, by omega, by omega, by go_num, ?_, T7.out, HLE.out.trans ⟨rfl, rfl, Nat.le_refl _⟩⟩
                    have := HFIN.out
                    rw [HDR.out, show (8 - i) / 2 = (8 - (i + 2)) / 2 + 1 by omega, loopF] at this
                    rw [← this]
                    congr 1
                    unfold roundF
                    rw [HM.out, if_neg (by decide), HTR.out]
                    show YC.put _ _ _ _ = YC.put _ _ (bits .and .i64 a 15).toNat (adjF 3 h ⟨xk, xi, xv, xr, xd⟩)
                    rw [HXX.out, HS.out, Int.toNat_natCast]
                  case measure => simp [intOf]; omega
              · clear hm0 t6
                have HM := Lib.hid hm
                have HTR0 : ∃ r, r = treeF n (0) (b :: rest) Cj := ⟨_, rfl⟩
                obtain ⟨⟨C1, xk, xi, xv, xr, xd⟩, htr⟩ := HTR0
                have HTR := Lib.hid (show treeF n (lowF 4 h) (b :: rest) Cj = (C1, ⟨xk, xi, xv, xr, xd⟩) from htr.symm)
                have hle1 : Cj.le C1 := by have := tree_le n (0) (b :: rest) Cj; rwa [← htr] at this
                have HLE := Lib.hid (HLJ.out.trans hle1)
                have CT := Lib.hid (show Calls Tryd.prog 74 #[.pointer (some ⟨Y.b, 0, none⟩), .int .i64 (0), .slice (some ⟨g, off + (i + 1), none⟩) (len - (i + 1)) (cap - (i + 1))] wr (TreeP wr Y C1 ⟨xk, xi, xv, xr, xd⟩) from by
                  have := IH.out (0) (b :: rest) Cj wr g (off + (i + 1)) (cap - (i + 1)) (by omega) (by omega) I.out.sy HRL.out (by rw [HRN.out]; omega) HRC.out HG.out (by have := I.out.on.size; omega)
                  rw [← htr, HRN.out] at this
                  exact this)
                clear htr hle1
                go_wp2_with (fail)
                go_at_call 74
                refine (CT.out).mono ?_
                rintro e w5 ⟨rfl, hy5, ho5⟩
                have T5 := Lib.hid (I.out.step hy5 ho5)
                clear hy5 ho5 CT d0 d1
                by_cases hk : xk = 0
                · subst hk
                  have HXX := Lib.hid (show adjF 4 h ⟨0, xi, xv, xr, xd⟩ = ⟨0, xi, xv, xr, xd⟩ by simp [adjF])
                  obtain ⟨wz, hwz⟩ : ∃ wz, wz = w5.alloc (.cells #[.int .i64 0, .int .i64 xi, .int .i64 xv, .int .i64 xr, .int .u32 xd] 36) := ⟨_, rfl⟩
                  have T6 := Lib.hid (show TrI w Y C1 wz by rw [hwz]; exact T5.out.below ((Below.refl _ w5).alloc (Nat.le_refl _) _))
                  have RX := Lib.hid (show Row wz w5.heap.size 5 (⟨0, xi, xv, xr, xd⟩ : K).cell by rw [hwz]; exact (⟨0, xi, xv, xr, xd⟩ : K).box w5 36)
                  have HWZ := Lib.hid hwz
                  clear hwz
                  have c6 := T6.out.sy.c6
                  obtain ⟨x0, x1, x2, x3, x4⟩ := K.facts RX.out
                  have hn1 := HLE.out.n
                  have hnn := T6.out.sy.n256
                  have hnm1 := HLE.out.nm
                  have hnm2 : C.node.nm = C.nm + 1 := rfl
                  have hnmn := T6.out.sy.nmn
                  have g0 := T6.out.sy.kr.cell (C.nm * 80 + s * 5) (by omega)
                  have g1 := T6.out.sy.kr.cell (C.nm * 80 + s * 5 + 1) (by omega)
                  have g2 := T6.out.sy.kr.cell (C.nm * 80 + s * 5 + 2) (by omega)
                  have g3 := T6.out.sy.kr.cell (C.nm * 80 + s * 5 + 3) (by omega)
                  have g4 := T6.out.sy.kr.cell (C.nm * 80 + s * 5 + 4) (by omega)
                  have f0 := T6.out.sy.kr.frozen (C.nm * 80 + s * 5)
                  have f1 := T6.out.sy.kr.frozen (C.nm * 80 + s * 5 + 1)
                  have f2 := T6.out.sy.kr.frozen (C.nm * 80 + s * 5 + 2)
                  have f3 := T6.out.sy.kr.frozen (C.nm * 80 + s * 5 + 3)
                  have f4 := T6.out.sy.kr.frozen (C.nm * 80 + s * 5 + 4)
                  have nlt : C.nm < C1.n := by omega
                  clear hn1 hnm1 hnm2 hnmn
                  go_wp2_with (fail)
                  rw [← HWZ.out]
                  go_region
                  obtain ⟨P1, P2⟩ := T6.out.sy.put C.nm s ⟨0, xi, xv, xr, xd⟩ hs16
                  have T7 := Lib.hid ((T6.out.step P1 (P2.mono fun _ _ e => .inr (.inr (.inr e)))).below (Below.refl _ _).drew)
                  clear P1 P2 c6 x0 x1 x2 x3 x4 g0 g1 g2 g3 g4 f0 f1 f2 f3 f4
                  go_wp2
                  go_roundw
                  case rel =>
                    refine ⟨i + 2, C1.put C.nm s ⟨0, xi, xv, xr, xd⟩, by omega, by omega, by go_num, ?_, T7.out, HLE.out.trans ⟨rfl, rfl, Nat.le_refl _⟩⟩
                    have := HFIN.out
                    rw [HDR.out, show (8 - i) / 2 = (8 - (i + 2)) / 2 + 1 by omega, loopF] at this
                    rw [← this]
                    congr 1
                    unfold roundF
                    rw [HM.out, if_neg (by decide), HTR.out]
                    show YC.put _ _ _ _ = YC.put _ _ (bits .and .i64 a 15).toNat (adjF 4 h ⟨0, xi, xv, xr, xd⟩)
                    rw [HXX.out, HS.out, Int.toNat_natCast]
                  case measure => simp [intOf]; omega
                · have hkb : (xk != 0) = true := by simpa using hk
                  have HXX := Lib.hid (show adjF 4 h ⟨xk, xi, xv, xr, xd⟩ = ⟨xk, xi, xv, 1, xd⟩ by simp [adjF, hk])
                  obtain ⟨wz, hwz⟩ : ∃ wz, wz = w5.alloc (.cells #[.int .i64 xk, .int .i64 xi, .int .i64 xv, .int .i64 1, .int .u32 xd] 36) := ⟨_, rfl⟩
                  have T6 := Lib.hid (show TrI w Y C1 wz by rw [hwz]; exact T5.out.below ((Below.refl _ w5).alloc (Nat.le_refl _) _))
                  have RX := Lib.hid (show Row wz w5.heap.size 5 (⟨xk, xi, xv, 1, xd⟩ : K).cell by rw [hwz]; exact (⟨xk, xi, xv, 1, xd⟩ : K).box w5 36)
                  have HWZ := Lib.hid hwz
                  clear hwz
                  have c6 := T6.out.sy.c6
                  obtain ⟨x0, x1, x2, x3, x4⟩ := K.facts RX.out
                  have hn1 := HLE.out.n
                  have hnn := T6.out.sy.n256
                  have hnm1 := HLE.out.nm
                  have hnm2 : C.node.nm = C.nm + 1 := rfl
                  have hnmn := T6.out.sy.nmn
                  have g0 := T6.out.sy.kr.cell (C.nm * 80 + s * 5) (by omega)
                  have g1 := T6.out.sy.kr.cell (C.nm * 80 + s * 5 + 1) (by omega)
                  have g2 := T6.out.sy.kr.cell (C.nm * 80 + s * 5 + 2) (by omega)
                  have g3 := T6.out.sy.kr.cell (C.nm * 80 + s * 5 + 3) (by omega)
                  have g4 := T6.out.sy.kr.cell (C.nm * 80 + s * 5 + 4) (by omega)
                  have f0 := T6.out.sy.kr.frozen (C.nm * 80 + s * 5)
                  have f1 := T6.out.sy.kr.frozen (C.nm * 80 + s * 5 + 1)
                  have f2 := T6.out.sy.kr.frozen (C.nm * 80 + s * 5 + 2)
                  have f3 := T6.out.sy.kr.frozen (C.nm * 80 + s * 5 + 3)
                  have f4 := T6.out.sy.kr.frozen (C.nm * 80 + s * 5 + 4)
                  have nlt : C.nm < C1.n := by omega
                  clear hn1 hnm1 hnm2 hnmn
                  go_wp2_with (fail)
                  rw [← HWZ.out]
                  go_region
                  obtain ⟨P1, P2⟩ := T6.out.sy.put C.nm s ⟨xk, xi, xv, 1, xd⟩ hs16
                  have T7 := Lib.hid ((T6.out.step P1 (P2.mono fun _ _ e => .inr (.inr (.inr e)))).below (Below.refl _ _).drew)
                  clear P1 P2 c6 x0 x1 x2 x3 x4 g0 g1 g2 g3 g4 f0 f1 f2 f3 f4
                  go_wp2
                  go_roundw
                  case rel =>
                    refine ⟨i + 2, C1.put C.nm s ⟨xk, xi, xv, 1, xd⟩, by omega, by omega, by go_num, ?_, T7.out, HLE.out.trans ⟨rfl, rfl, Nat.le_refl _⟩⟩
                    have := HFIN.out
                    rw [HDR.out, show (8 - i) / 2 = (8 - (i + 2)) / 2 + 1 by omega, loopF] at this
                    rw [← this]
                    congr 1
                    unfold roundF
                    rw [HM.out, if_neg (by decide), HTR.out]
                    show YC.put _ _ _ _ = YC.put _ _ (bits .and .i64 a 15).toNat (adjF 4 h ⟨xk, xi, xv, xr, xd⟩)
                    rw [HXX.out, HS.out, Int.toNat_natCast]
                  case measure => simp [intOf]; omega
              · clear hm0 t6
                have HM := Lib.hid hm
                have HTR0 : ∃ r, r = treeF n (h - 1) (b :: rest) Cj := ⟨_, rfl⟩
                obtain ⟨⟨C1, xk, xi, xv, xr, xd⟩, htr⟩ := HTR0
                have HTR := Lib.hid (show treeF n (lowF 5 h) (b :: rest) Cj = (C1, ⟨xk, xi, xv, xr, xd⟩) from htr.symm)
                have hle1 : Cj.le C1 := by have := tree_le n (h - 1) (b :: rest) Cj; rwa [← htr] at this
                have HLE := Lib.hid (HLJ.out.trans hle1)
                have CT := Lib.hid (show Calls Tryd.prog 74 #[.pointer (some ⟨Y.b, 0, none⟩), .int .i64 (h - 1), .slice (some ⟨g, off + (i + 1), none⟩) (len - (i + 1)) (cap - (i + 1))] wr (TreeP wr Y C1 ⟨xk, xi, xv, xr, xd⟩) from by
                  have := IH.out (h - 1) (b :: rest) Cj wr g (off + (i + 1)) (cap - (i + 1)) (by omega) (by omega) I.out.sy HRL.out (by rw [HRN.out]; omega) HRC.out HG.out (by have := I.out.on.size; omega)
                  rw [← htr, HRN.out] at this
                  exact this)
                clear htr hle1
                go_wp2_with (fail)
                go_at_call 74
                refine (CT.out).mono ?_
                rintro e w5 ⟨rfl, hy5, ho5⟩
                have T5 := Lib.hid (I.out.step hy5 ho5)
                clear hy5 ho5 CT d0 d1
                by_cases hk : xk = 0
                · subst hk
                  have HXX := Lib.hid (show adjF 5 h ⟨0, xi, xv, xr, xd⟩ = ⟨0, xi, xv, xr, xd⟩ by simp [adjF])
                  obtain ⟨wz, hwz⟩ : ∃ wz, wz = w5.alloc (.cells #[.int .i64 0, .int .i64 xi, .int .i64 xv, .int .i64 xr, .int .u32 xd] 36) := ⟨_, rfl⟩
                  have T6 := Lib.hid (show TrI w Y C1 wz by rw [hwz]; exact T5.out.below ((Below.refl _ w5).alloc (Nat.le_refl _) _))
                  have RX := Lib.hid (show Row wz w5.heap.size 5 (⟨0, xi, xv, xr, xd⟩ : K).cell by rw [hwz]; exact (⟨0, xi, xv, xr, xd⟩ : K).box w5 36)
                  have HWZ := Lib.hid hwz
                  clear hwz
                  have c6 := T6.out.sy.c6
                  obtain ⟨x0, x1, x2, x3, x4⟩ := K.facts RX.out
                  have hn1 := HLE.out.n
                  have hnn := T6.out.sy.n256
                  have hnm1 := HLE.out.nm
                  have hnm2 : C.node.nm = C.nm + 1 := rfl
                  have hnmn := T6.out.sy.nmn
                  have g0 := T6.out.sy.kr.cell (C.nm * 80 + s * 5) (by omega)
                  have g1 := T6.out.sy.kr.cell (C.nm * 80 + s * 5 + 1) (by omega)
                  have g2 := T6.out.sy.kr.cell (C.nm * 80 + s * 5 + 2) (by omega)
                  have g3 := T6.out.sy.kr.cell (C.nm * 80 + s * 5 + 3) (by omega)
                  have g4 := T6.out.sy.kr.cell (C.nm * 80 + s * 5 + 4) (by omega)
                  have f0 := T6.out.sy.kr.frozen (C.nm * 80 + s * 5)
                  have f1 := T6.out.sy.kr.frozen (C.nm * 80 + s * 5 + 1)
                  have f2 := T6.out.sy.kr.frozen (C.nm * 80 + s * 5 + 2)
                  have f3 := T6.out.sy.kr.frozen (C.nm * 80 + s * 5 + 3)
                  have f4 := T6.out.sy.kr.frozen (C.nm * 80 + s * 5 + 4)
                  have nlt : C.nm < C1.n := by omega
                  clear hn1 hnm1 hnm2 hnmn
                  go_wp2_with (fail)
                  rw [← HWZ.out]
                  go_region
                  obtain ⟨P1, P2⟩ := T6.out.sy.put C.nm s ⟨0, xi, xv, xr, xd⟩ hs16
                  have T7 := Lib.hid ((T6.out.step P1 (P2.mono fun _ _ e => .inr (.inr (.inr e)))).below (Below.refl _ _).drew)
                  clear P1 P2 c6 x0 x1 x2 x3 x4 g0 g1 g2 g3 g4 f0 f1 f2 f3 f4
                  go_wp2
                  go_roundw
                  case rel =>
                    refine ⟨i + 2, C1.put C.nm s ⟨0, xi, xv, xr, xd⟩, by omega, by omega, by go_num, ?_, T7.out, HLE.out.trans ⟨rfl, rfl, Nat.le_refl _⟩⟩
                    have := HFIN.out
                    rw [HDR.out, show (8 - i) / 2 = (8 - (i + 2)) / 2 + 1 by omega, loopF] at this
                    rw [← this]
                    congr 1
                    unfold roundF
                    rw [HM.out, if_neg (by decide), HTR.out]
                    show YC.put _ _ _ _ = YC.put _ _ (bits .and .i64 a 15).toNat (adjF 5 h ⟨0, xi, xv, xr, xd⟩)
                    rw [HXX.out, HS.out, Int.toNat_natCast]
                  case measure => simp [intOf]; omega
                · have hkb : (xk != 0) = true := by simpa using hk
                  have HXX := Lib.hid (show adjF 5 h ⟨xk, xi, xv, xr, xd⟩ = ⟨xk, xi, xv, 4, xd⟩ by simp [adjF, hk])
                  obtain ⟨wz, hwz⟩ : ∃ wz, wz = w5.alloc (.cells #[.int .i64 xk, .int .i64 xi, .int .i64 xv, .int .i64 4, .int .u32 xd] 36) := ⟨_, rfl⟩
                  have T6 := Lib.hid (show TrI w Y C1 wz by rw [hwz]; exact T5.out.below ((Below.refl _ w5).alloc (Nat.le_refl _) _))
                  have RX := Lib.hid (show Row wz w5.heap.size 5 (⟨xk, xi, xv, 4, xd⟩ : K).cell by rw [hwz]; exact (⟨xk, xi, xv, 4, xd⟩ : K).box w5 36)
                  have HWZ := Lib.hid hwz
                  clear hwz
                  have c6 := T6.out.sy.c6
                  obtain ⟨x0, x1, x2, x3, x4⟩ := K.facts RX.out
                  have hn1 := HLE.out.n
                  have hnn := T6.out.sy.n256
                  have hnm1 := HLE.out.nm
                  have hnm2 : C.node.nm = C.nm + 1 := rfl
                  have hnmn := T6.out.sy.nmn
                  have g0 := T6.out.sy.kr.cell (C.nm * 80 + s * 5) (by omega)
                  have g1 := T6.out.sy.kr.cell (C.nm * 80 + s * 5 + 1) (by omega)
                  have g2 := T6.out.sy.kr.cell (C.nm * 80 + s * 5 + 2) (by omega)
                  have g3 := T6.out.sy.kr.cell (C.nm * 80 + s * 5 + 3) (by omega)
                  have g4 := T6.out.sy.kr.cell (C.nm * 80 + s * 5 + 4) (by omega)
                  have f0 := T6.out.sy.kr.frozen (C.nm * 80 + s * 5)
                  have f1 := T6.out.sy.kr.frozen (C.nm * 80 + s * 5 + 1)
                  have f2 := T6.out.sy.kr.frozen (C.nm * 80 + s * 5 + 2)
                  have f3 := T6.out.sy.kr.frozen (C.nm * 80 + s * 5 + 3)
                  have f4 := T6.out.sy.kr.frozen (C.nm * 80 + s * 5 + 4)
                  have nlt : C.nm < C1.n := by omega
                  clear hn1 hnm1 hnm2 hnmn
                  go_wp2_with (fail)
                  rw [← HWZ.out]
                  go_region
                  obtain ⟨P1, P2⟩ := T6.out.sy.put C.nm s ⟨xk, xi, xv, 4, xd⟩ hs16
                  have T7 := Lib.hid ((T6.out.step P1 (P2.mono fun _ _ e => .inr (.inr (.inr e)))).below (Below.refl _ _).drew)
                  clear P1 P2 c6 x0 x1 x2 x3 x4 g0 g1 g2 g3 g4 f0 f1 f2 f3 f4
                  go_wp2
                  go_roundw
                  case rel =>
                    refine ⟨i + 2, C1.put C.nm s ⟨xk, xi, xv, 4, xd⟩, by omega, by omega, by go_num, ?_, T7.out, HLE.out.trans ⟨rfl, rfl, Nat.le_refl _⟩⟩
                    have := HFIN.out
                    rw [HDR.out, show (8 - i) / 2 = (8 - (i + 2)) / 2 + 1 by omega, loopF] at this
                    rw [← this]
                    congr 1
                    unfold roundF
                    rw [HM.out, if_neg (by decide), HTR.out]
                    show YC.put _ _ _ _ = YC.put _ _ (bits .and .i64 a 15).toNat (adjF 5 h ⟨xk, xi, xv, xr, xd⟩)
                    rw [HXX.out, HS.out, Int.toNat_natCast]
                  case measure => simp [intOf]; omega
          · have hCf : Cj = Cf := by
              rw [← HFIN.out]
              by_cases h8 : i < 8
              · exact (loop_short (treeF n) h C.nm _ _ Cj (by rw [List.length_drop, ← HLEN.out]; omega)).symm
              · rw [show (8 - i) / 2 = 0 by omega, loop_out]
            subst hCf
            have hnm : C.nm < Cj.nm := by have := HLJ.out.nm; have h2 : C.node.nm = C.nm + 1 := rfl; omega
            have NK := Lib.hid (skey_node Y Cj C.nm wr I.out.sy hnm)
            clear hnm
            by_cases hx : i + 1 < len
            · have e2 : decide ((i : Int) < 8) = false := by simp; omega
              clear hcond
              go_wp2_with (fail)
              go_at_call 89
              refine (NK.out).mono ?_
              rintro e w5 ⟨rfl, hb5⟩
              have T5 := Lib.hid (I.out.below hb5)
              have l5 : w.heap.size < w5.heap.size := T5.out.rz.lt
              obtain ⟨z0, z1, z2, z3, z4⟩ := K.facts T5.out.rz
              have f0 := T5.out.rz.frozen 0
              have f1 := T5.out.rz.frozen 1
              have f2 := T5.out.rz.frozen 2
              have f3 := T5.out.rz.frozen 3
              have f4 := T5.out.rz.frozen 4
              clear hb5
              go_wp2
              have BS : Row _ w.heap.size 5 (⟨2, C.nm, 0, 0, h⟩ : K).cell := (box_set T5.out.rz (k' := ⟨2, C.nm, 0, 0, h⟩)).alloc (.cells #[.int .i64 2, .int .i64 C.nm, .int .i64 0, .int .i64 0, .int .u32 h] 36)
              obtain ⟨m0, m1, m2, m3, m4⟩ := K.facts BS
              simp only [K.cell] at m0 m1 m2 m3 m4
              clear BS z0 z1 z2 z3 z4 f0 f1 f2 f3 f4
              refine bodyPost_ret (v := .agg #[.int .i64 2, .int .i64 C.nm, .int .i64 0, .int .i64 0, .int .u32 h]) (by simp only [results, Tryd.results74, go_sem]; simp [go_sem, m0, m1, m2, m3, m4]) rfl ⟨rfl, ?_, ?_⟩
              · exact (T5.out.sy.only (key_only' (X := fun x => x = w.heap.size) (Only.refl _ _) (.inl rfl) _ _ _ _ _) (fun x hx e => by have := HY.out.lt x hx; omega)).below ((Below.refl _ _).alloc (Nat.le_refl _) _)
              · exact (key_only' T5.out.on (.inr (Nat.le_refl _)) _ _ _ _ _).alloc _
            · have e1 : decide ((i : Int) + 1 < (len : Int)) = false := by simp; omega
              clear hcond
              go_wp2_with (fail)
              go_at_call 89
              refine (NK.out).mono ?_
              rintro e w5 ⟨rfl, hb5⟩
              have T5 := Lib.hid (I.out.below hb5)
              have l5 : w.heap.size < w5.heap.size := T5.out.rz.lt
              obtain ⟨z0, z1, z2, z3, z4⟩ := K.facts T5.out.rz
              have f0 := T5.out.rz.frozen 0
              have f1 := T5.out.rz.frozen 1
              have f2 := T5.out.rz.frozen 2
              have f3 := T5.out.rz.frozen 3
              have f4 := T5.out.rz.frozen 4
              clear hb5
              go_wp2
              have BS : Row _ w.heap.size 5 (⟨2, C.nm, 0, 0, h⟩ : K).cell := (box_set T5.out.rz (k' := ⟨2, C.nm, 0, 0, h⟩)).alloc (.cells #[.int .i64 2, .int .i64 C.nm, .int .i64 0, .int .i64 0, .int .u32 h] 36)
              obtain ⟨m0, m1, m2, m3, m4⟩ := K.facts BS
              simp only [K.cell] at m0 m1 m2 m3 m4
              clear BS z0 z1 z2 z3 z4 f0 f1 f2 f3 f4
              refine bodyPost_ret (v := .agg #[.int .i64 2, .int .i64 C.nm, .int .i64 0, .int .i64 0, .int .u32 h]) (by simp only [results, Tryd.results74, go_sem]; simp [go_sem, m0, m1, m2, m3, m4]) rfl ⟨rfl, ?_, ?_⟩
              · exact (T5.out.sy.only (key_only' (X := fun x => x = w.heap.size) (Only.refl _ _) (.inl rfl) _ _ _ _ _) (fun x hx e => by have := HY.out.lt x hx; omega)).below ((Below.refl _ _).alloc (Nat.le_refl _) _)
              · exact (key_only' T5.out.on (.inr (Nat.le_refl _)) _ _ _ _ _).alloc _
      · have e : treeF (n + 1) h l C = (C, K.zero) := by unfold treeF; rw [if_neg h1, if_neg hlt]
        rw [e]
        clear e
        have h1' : 1 ≤ h := by omega
        obtain ⟨len, hlen⟩ : ∃ len, len = l.length := ⟨_, rfl⟩
        rw [← hlen]
        have HY := Lib.hid hy
        have RN := Lib.hid (fun V (hV : Sy V Y C) => rnmake_no Y C V hV hlt)
        clear hL hg hy hlt h1 hn hlen IH hl hc hgl
        go_enter Tryd.func74, Tryd.ntmps74
        go_wp2_with (fail)
        go_at_call 90
        refine (RN.out _ (HY.out.below ((Below.refl _ w).alloc (Nat.le_refl _) _))).mono ?_
        rintro e w1 ⟨rfl, rfl⟩
        go_wp2
        refine bodyPost_ret (v := .agg #[.int .i64 0, .int .i64 0, .int .i64 0, .int .i64 0, .int .u32 0]) (by simp [results, Tryd.results74, go_sem]) rfl ⟨rfl, ?_, ?_⟩
        · exact HY.out.below ((Below.refl _ w).alloc (Nat.le_refl _) _)
        · exact Only.of_below _ ((Below.refl _ w).alloc (Nat.le_refl _) _)

theorem tree_any (Y : YA) (n : Nat) : ∀ (h : Int) (l : List Int) (C : YC) (w : World) (g off cap : Nat), h ≤ n → h ≤ 4 → Sy w Y C → Lst w g off l → l.length ≤ 1000 → l.length ≤ cap → ¬ Y.X g → g < w.heap.size →
    Calls Tryd.prog 74 #[.pointer (some ⟨Y.b, 0, none⟩), .int .i64 h, .slice (some ⟨g, off, none⟩) l.length cap] w (TreeP w Y (treeF n h l C).1 (treeF n h l C).2) := by
  induction n with
  | zero => exact fun h l C w g off cap hn _ hy _ hl _ _ _ => leaf_any Y C h _ l.length cap w hy (by simpa using hn) hl
  | succ n ih => exact tree_step Y n ih
end Go.Proofs.YtdlemkmkheokkaaDoor
