/- turnkeylaw10.CacheHits answers true for every input: the walk. -/
import Derived.Test.YtdlemkmkheokkaaDoorTc
import Derived.Test.YtdlemkmkheokkaaDoorCj
import Derived.Test.YtdlemkmkheokkaaDoorCs
namespace Go.Proofs.YtdlemkmkheokkaaDoor
open Go.RowKit

def TH : YC × K := treeF 1 1 [0, 1, 1, 1, 2, 1] (YC.new 16 16)
theorem TH_key : TH.2 = ⟨2, 0, 0, 0, 1⟩ := by kernel_rfl
def cwH (y : Int) : CW := ⟨kn0, 0, [0], 0, y, false⟩
theorem wayH (x : Int) (h0 : 0 ≤ x) (h1 : x < 32) : wayF (copyC TH.1) kn0 x = ⟨0, x, false, 0, [0]⟩ := by
  have h := ((way_page (copyC TH.1) kn0 0 x (by omega) (by omega)).1 (by kernel_rfl)).1
  rw [h, show x % 32 = x by omega, show (wayF (copyC TH.1) kn0 0).page = 0 by kernel_rfl, show (wayF (copyC TH.1) kn0 0).ro = false by kernel_rfl, show (wayF (copyC TH.1) kn0 0).nodes = [0] by kernel_rfl]
theorem findH0 (x : Int) (h0 : 0 ≤ x) (h1 : x < 32) : findF (copyC TH.1) 8 [] kn0 x = (⟨0, x, false, 0⟩, false, [cwH x]) := by
  unfold findF
  rw [wayH x h0 h1, show x / 32 = 0 by omega]
  rfl
theorem findH1 (x y : Int) (h0 : 0 ≤ x) (h1 : x < 32) : findF (copyC TH.1) 8 [cwH y] kn0 x = (⟨0, x, false, 0⟩, true, [cwH y]) := by
  have e : hitB kn0 (x / 32) (cwH y) = true := by
    rw [show x / 32 = 0 by omega]
    rfl
  have e2 : [cwH y].find? (hitB kn0 (x / 32)) = some (cwH y) := by simp only [List.find?_cons, e]
  unfold findF
  rw [e2]
  show ((⟨0, x % 32, false, 0⟩ : FR), true, [cwH y]) = _
  rw [show x % 32 = x by omega]
/-- behind i finds -/
def HitI (w0 : World) (S : SA) (cb : Nat) (D : SC) (X : Nat → Prop) (i : Nat) (W : World) : Prop :=
  (i = 0 ∧ Lk w0 S cb D 8 0 [] X W) ∨ (1 ≤ i ∧ ∃ y, Lk w0 S cb D 8 (i - 1 : Int) [cwH y] X W)
theorem hit_find {w0 : World} {S : SA} {cb : Nat} {D : SC} (hD : D = copyC TH.1) {X : Nat → Prop} {i : Nat} {W : World} (h : HitI w0 S cb D X i W) (x : Int) (h0 : 0 ≤ x) (h1 : x < 32) (hi : i ≤ 100) :
    Calls Tryd.prog 40 #[.pointer (some ⟨cb, 0, none⟩), .pointer (some ⟨S.s, 0, none⟩), kn0.v, .int .u32 x] W fun e W' => e = .returned (.tuple #[.agg #[.int .i64 0, .int .i64 x, .bool false], .int .i64 0]) ∧ HitI w0 S cb D X (i + 1) W' ∧ Keep X W W' := by
  subst hD
  rcases h with ⟨rfl, hl⟩ | ⟨h2, y, hl⟩
  · have := lk_find kn0 x hl h0 (by omega) (by omega) (by omega)
    rw [findH0 x h0 h1] at this
    refine this.mono ?_
    rintro e W' ⟨rfl, k1, k2⟩
    exact ⟨rfl, .inr ⟨by omega, x, by simpa using k1⟩, k2⟩
  · have := lk_find kn0 x hl h0 (by omega) (by omega) (by omega)
    rw [findH1 x y h0 h1] at this
    refine this.mono ?_
    rintro e W' ⟨rfl, k1, k2⟩
    refine ⟨rfl, .inr ⟨by omega, y, ?_⟩, k2⟩
    have e : ((i : Int) - 1 + 1) = ((i + 1 : Nat) : Int) - 1 := by push_cast; omega
    rw [← e]
    exact k1
theorem nums2 (w : World) (x y : Int) (t : TypeId) : Nums (w.alloc (.cells #[.int .i64 x, .int .i64 y] t)) w.heap.size [x, y] := by
  have h := Row.new w #[.int .i64 x, .int .i64 y] t 2 (fun j => .int .i64 ([x, y].getD j 0)) rfl (fun i hi => by rcases (by omega : i = 0 ∨ i = 1) with rfl | rfl <;> rfl)
  intro j v hv
  have hj : j < 2 := by
    have := (List.getElem?_eq_some_iff.1 hv).1
    simpa using this
  rw [h.cell j hj, List.getD_eq_getElem?_getD, hv]
  rfl
theorem lst6 (w : World) (a b c d e f : Int) (t : TypeId) : Lst (w.alloc (.cells #[.int .i64 a, .int .i64 b, .int .i64 c, .int .i64 d, .int .i64 e, .int .i64 f] t)) w.heap.size 0 [a, b, c, d, e, f] := by
  have h := Row.new w #[.int .i64 a, .int .i64 b, .int .i64 c, .int .i64 d, .int .i64 e, .int .i64 f] t 6 (fun j => .int .i64 ([a, b, c, d, e, f].getD j 0)) rfl (fun i hi => by rcases (by omega : i = 0 ∨ i = 1 ∨ i = 2 ∨ i = 3 ∨ i = 4 ∨ i = 5) with rfl | rfl | rfl | rfl | rfl | rfl <;> rfl)
  intro j v hv
  have hj : j < 6 := by
    have := (List.getElem?_eq_some_iff.1 hv).1
    simpa using this
  rw [Nat.zero_add, h.cell j hj, List.getD_eq_getElem?_getD, hv]
  rfl

set_option maxRecDepth 100000 in
set_option maxHeartbeats 4000000 in
theorem cacheHits_walk (a0 b0 which : Int) (w : World) : Calls Tryd.prog 14 #[.int .i64 a0, .int .i64 b0, .int .i64 which] w (TrueBelow w) := by
  obtain ⟨a, ha, ha30⟩ : ∃ a : Nat, numB a0 30 = (a : Int) ∧ a < 30 := ⟨(numB a0 30).toNat, by have := numB_range a0 30 (by omega); omega, by have := numB_range a0 30 (by omega); omega⟩
  obtain ⟨b, hb, hb32⟩ : ∃ b : Nat, numB b0 32 = (b : Int) ∧ b < 32 := ⟨(numB b0 32).toNat, by have := numB_range b0 32 (by omega); omega, by have := numB_range b0 32 (by omega); omega⟩
  have NA := Lib.hid (fun W => ha ▸ number_any a0 30 W (by omega) (by omega))
  have NB := Lib.hid (fun W => hb ▸ number_any b0 32 W (by omega) (by omega))
  obtain ⟨D, hD⟩ : ∃ D, D = copyC TH.1 := ⟨_, rfl⟩
  have HD := Lib.hid hD
  have F10 := Lib.hid (fun W => first10 W)
  have MD := Lib.hid (fun (W : World) => show Calls Tryd.prog 46 #[.int .i64 1, .slice (some ⟨W.heap.size, 0, none⟩) 6 6] (W.alloc (.cells #[.int .i64 0, .int .i64 1, .int .i64 1, .int .i64 1, .int .i64 2, .int .i64 1] 3)) (fun e w' => ∃ S : SA, e = .returned (.tuple #[.pointer (some ⟨S.s, 0, none⟩), (⟨2, 0, 0, 0, 1⟩ : K).v]) ∧ LwS (W.alloc (.cells #[.int .i64 0, .int .i64 1, .int .i64 1, .int .i64 1, .int .i64 2, .int .i64 1] 3)) S D w') from by
    refine (made10_list 1 1 [0, 1, 1, 1, 2, 1] W.heap.size 0 6 _ (by decide) (by decide) (lst6 W 0 1 1 1 2 1 3) (by decide) (by decide) (by simp)).mono ?_
    rintro e w' ⟨S, rfl, h1, h2, h3⟩
    exact ⟨S, by rw [← TH_key]; rfl, by rw [hD]; exact ⟨h1, h3, h2⟩⟩)
  have CN := Lib.hid (show ∀ W, Calls Tryd.prog 39 #[.int .i64 8] W (NewCa W 8) from fun W => cache_new 8 W (by omega) (by omega))
  clear ha hb hD
  go_enter Tryd.func14, Tryd.ntmps14
  go_wp2_with (fail)
  go_at_call 38
  refine (F10.out _).mono ?_
  rintro e wa ⟨rfl, hba⟩
  have HBa := Lib.hid hba
  clear hba
  go_wp2_with (fail)
  go_at_call 46
  refine (MD.out _).mono ?_
  rintro e w1 ⟨S, rfl, hs⟩
  have B0 : Below w.heap.size w (wa.alloc (.cells #[.int .i64 0, .int .i64 1, .int .i64 1, .int .i64 1, .int .i64 2, .int .i64 1] 3)) := HBa.out.alloc HBa.out.size _
  have hs1 := Lib.hid hs
  have L1 := Lib.hid (show LwS w S D (w1.alloc (.cells #[.int .i64 2, .int .i64 0, .int .i64 0, .int .i64 0, .int .u32 1] 36)) from (⟨hs.sto, B0.trans (hs.bel.mono B0.size), fun x hx => Nat.le_trans B0.size (hs.dB x hx)⟩ : LwS w S D w1).alloc _)
  have RK := Lib.hid ((⟨2, 0, 0, 0, 1⟩ : K).box w1 36)
  clear hs B0 MD
  go_wp2_with (fail)
  go_at_call 39
  refine (CN.out _).mono ?_
  rintro e w2 ⟨cb, rfl, hcb, hc, hb2⟩
  have lS : ¬ S.has w1.heap.size := fun e => by have := hs1.out.sto.lt _ e; omega
  have L2 := Lib.hid ((Lk.start L1.out hc hcb hb2 (by omega) (by omega)).addlow (g := w1.heap.size) (by simp at hcb; omega) lS)
  have RK2 := Lib.hid (RK.out.below hb2)
  clear hc hb2 CN RK hcb L1 hs1 lS
  go_wp2_with (fail)
  go_at_call 26
  refine (NA.out _).mono ?_
  rintro e w' ⟨rfl, rfl⟩
  go_wp2_with (fail)
  go_at_call 26
  refine (NB.out _).mono ?_
  rintro e w' ⟨rfl, rfl⟩
  go_wp2_with (fail)
  go_loopw [12] (fun t wr => ∃ i : Nat, i ≤ a + 1 ∧ t = .int .i64 i ∧ Hid (HitI w S cb D (fun x => False ∨ x = w1.heap.size) i wr ∧ Row wr w1.heap.size 5 (⟨2, 0, 0, 0, 1⟩ : K).cell)) (fun t _ => a + 1 - (intOf t).toNat)
  case atStart => exact ⟨0, by omega, rfl, .inl ⟨rfl, L2.out⟩, RK2.out⟩
  case round =>
    clear L2 RK2
    obtain ⟨i, hi, rfl, I⟩ := hrel
    obtain ⟨c0, c1, c2, c3, c4⟩ := K.facts I.out.2
    by_cases hil : i < a + 1
    · have hlt : (i : Int) < (a : Int) + 1 := by omega
      have hm0 : 0 ≤ ((i : Int) + b) % 32 := by omega
      have hm1 : ((i : Int) + b) % 32 < 32 := by omega
      have FD := Lib.hid (hit_find HD.out I.out.1 (((i : Int) + b) % 32) hm0 hm1 (by omega))
      clear hm0 hm1
      go_wp2_with (fail)
      go_at_call 40
      refine (FD.out).mono ?_
      rintro e w5 ⟨rfl, hh5, hk5⟩
      have J5 : Hid (HitI w S cb D (fun x => False ∨ x = w1.heap.size) (i + 1) (w5.alloc (.cells #[.int .i64 0, .int .i64 (((i : Int) + b) % 32), .bool false] 41)) ∧ Row (w5.alloc (.cells #[.int .i64 0, .int .i64 (((i : Int) + b) % 32), .bool false] 41)) w1.heap.size 5 (⟨2, 0, 0, 0, 1⟩ : K).cell) := by
        refine ⟨?_, (I.out.2.of_block (w' := w5) (hk5.2 _ (.inr rfl))).alloc _⟩
        rcases hh5 with ⟨e, hl⟩ | ⟨e, y, hl⟩
        · exact .inl ⟨e, hl.alloc _⟩
        · exact .inr ⟨e, y, hl.alloc _⟩
      clear hh5 hk5 c0 c1 c2 c3 c4 FD I
      go_wp2
      go_roundw
      case rel => exact ⟨i + 1, by omega, by go_num, J5⟩
      case measure => simp [intOf]; omega
    · obtain rfl : i = a + 1 := by omega
      obtain ⟨y, L5⟩ : ∃ y, Hid (Lk w S cb D 8 a [cwH y] (fun x => False ∨ x = w1.heap.size) wr) := by
        rcases I.out.1 with ⟨e, _⟩ | ⟨_, y, hl⟩
        · omega
        · refine ⟨y, ?_⟩
          have e : (((a + 1 : Nat) : Int) - 1) = a := by push_cast; omega
          rw [e] at hl
          exact hl
      have RK5 := Lib.hid I.out.2
      have HT := Lib.hid (lk_hits L5.out)
      have LN := Lib.hid (show Calls Tryd.prog 41 #[.pointer (some ⟨cb, 0, none⟩)] wr (fun e W' => e = .returned (.int .i64 1) ∧ wr = W') from lk_len L5.out)
      clear c0 c1 c2 c3 c4 I
      have FG := Lib.hid (show Calls Tryd.prog 48 #[.pointer (some ⟨cb, 0, none⟩), .slice (some ⟨wr.heap.size, 0, none⟩) 2 2] (wr.alloc (.cells #[.int .i64 9, .int .i64 10] 3)) (ForgetL w S cb D 8 a [cwH y] (fun x => (False ∨ x = w1.heap.size) ∨ x = wr.heap.size) (wr.alloc (.cells #[.int .i64 9, .int .i64 10] 3))) from lk_forget wr.heap.size 2 [9, 10] (L5.out.new _) (nums2 wr 9 10 3) (by decide) (.inr rfl) (fun c hc => by
        obtain rfl : c = cwH y := by simpa using hc
        simp [cwH]))
      go_wp2_with (first | (go_at_call 42; refine (HT.out).mono ?_; rintro e w' ⟨rfl, rfl⟩) | (go_at_call 41; refine (LN.out).mono ?_; rintro e w' ⟨rfl, rfl⟩))
      go_at_call 48
      refine (FG.out).mono ?_
      rintro e w6 ⟨rfl, hl6, hk6⟩
      have L6 := Lib.hid (hl6.less (Y := fun x => False ∨ x = w1.heap.size) fun x hx => .inl hx)
      have RK6 := Lib.hid ((RK5.out.alloc (.cells #[.int .i64 9, .int .i64 10] 3)).of_block (w' := w6) (hk6.2 _ (.inl (.inr rfl))))
      have LN := Lib.hid (show Calls Tryd.prog 41 #[.pointer (some ⟨cb, 0, none⟩)] w6 (fun e W' => e = .returned (.int .i64 1) ∧ w6 = W') from lk_len L6.out)
      clear hl6 hk6 FG HT L5 RK5
      obtain ⟨c0, c1, c2, c3, c4⟩ := K.facts RK6.out
      have l6 := RK6.out.lt
      by_cases hw : which.tmod 2 = 0
      · have hwb : (which.tmod 2 == 0) = true := by simpa using hw
        have FG := Lib.hid (show Calls Tryd.prog 48 #[.pointer (some ⟨cb, 0, none⟩), .slice (some ⟨w6.heap.size, 0, none⟩) 2 2] (w6.alloc (.cells #[.int .i64 3, .int .i64 0] 3)) (ForgetL w S cb D 8 a [] (fun x => (False ∨ x = w1.heap.size) ∨ x = w6.heap.size) (w6.alloc (.cells #[.int .i64 3, .int .i64 0] 3))) from lk_forget w6.heap.size 2 [3, 0] (L6.out.new _) (nums2 w6 3 0 3) (by decide) (.inr rfl) (fun c hc => by
          obtain rfl : c = cwH y := by simpa using hc
          simp [cwH]))
        clear hw
        go_wp2_with (go_at_call 41; refine (LN.out).mono ?_; rintro e w' ⟨rfl, rfl⟩)
        go_at_call 48
        refine (FG.out).mono ?_
        rintro e w9 ⟨rfl, hl9, hk9⟩
        have L9 := Lib.hid (hl9.less (Y := fun x => False ∨ x = w1.heap.size) fun x hx => .inl hx)
        have RK9 := Lib.hid ((RK6.out.alloc (.cells #[.int .i64 3, .int .i64 0] 3)).of_block (w' := w9) (hk9.2 _ (.inl (.inr rfl))))
        clear hl9 hk9 FG LN c0 c1 c2 c3 c4 L6 RK6 l6
        obtain ⟨c0, c1, c2, c3, c4⟩ := K.facts RK9.out
        have FD := Lib.hid (show Calls Tryd.prog 40 #[.pointer (some ⟨cb, 0, none⟩), .pointer (some ⟨S.s, 0, none⟩), kn0.v, .int .u32 (b : Int)] w9 (FindL w S cb D 8 a (fun x => False ∨ x = w1.heap.size) (⟨0, b, false, 0⟩, false, [cwH b]) w9) from by
          have := lk_find kn0 (b : Int) L9.out (by omega) (by omega) (by omega) (by omega)
          rw [HD.out, findH0 (b : Int) (by omega) (by omega), ← HD.out] at this
          exact this)
        have hb32' : (b : Int) < 32 := by omega
        go_wp2_with (fail)
        go_at_call 40
        refine (FD.out).mono ?_
        rintro e w10 ⟨he, hl10, hk10⟩
        obtain rfl : e = .returned (.tuple #[.agg #[.int .i64 0, .int .i64 b, .bool false], .int .i64 0]) := he
        have L10 := Lib.hid (show Lk w S cb D 8 a [cwH b] (fun x => False ∨ x = w1.heap.size) w10 from hl10)
        have HT := Lib.hid (lk_hits L10.out)
        have LN := Lib.hid (show Calls Tryd.prog 41 #[.pointer (some ⟨cb, 0, none⟩)] w10 (fun e W' => e = .returned (.int .i64 1) ∧ w10 = W') from lk_len L10.out)
        have B10 := Lib.hid L10.out.bel
        clear hl10 hk10 c0 c1 c2 c3 c4 FD
        go_wp2_with (first | (go_at_call 42; refine (HT.out).mono ?_; rintro e w' ⟨rfl, rfl⟩) | (go_at_call 41; refine (LN.out).mono ?_; rintro e w' ⟨rfl, rfl⟩))
        go_ret
        exact ⟨rfl, B10.out⟩
      · have hwb : (which.tmod 2 == 0) = false := by simpa using hw
        have CL := Lib.hid (lk_clear L6.out)
        clear hw
        go_wp2_with (go_at_call 41; refine (LN.out).mono ?_; rintro e w' ⟨rfl, rfl⟩)
        go_at_call 45
        refine (CL.out).mono ?_
        rintro e w9 ⟨rfl, hl9, hk9⟩
        have L9 := Lib.hid hl9
        have RK9 := Lib.hid (RK6.out.of_block (w' := w9) (hk9.2 _ (.inr rfl)))
        clear hl9 hk9 CL LN c0 c1 c2 c3 c4 L6 RK6 l6
        obtain ⟨c0, c1, c2, c3, c4⟩ := K.facts RK9.out
        have FD := Lib.hid (show Calls Tryd.prog 40 #[.pointer (some ⟨cb, 0, none⟩), .pointer (some ⟨S.s, 0, none⟩), kn0.v, .int .u32 (b : Int)] w9 (FindL w S cb D 8 a (fun x => False ∨ x = w1.heap.size) (⟨0, b, false, 0⟩, false, [cwH b]) w9) from by
          have := lk_find kn0 (b : Int) L9.out (by omega) (by omega) (by omega) (by omega)
          rw [HD.out, findH0 (b : Int) (by omega) (by omega), ← HD.out] at this
          exact this)
        have hb32' : (b : Int) < 32 := by omega
        go_wp2_with (fail)
        go_at_call 40
        refine (FD.out).mono ?_
        rintro e w10 ⟨he, hl10, hk10⟩
        obtain rfl : e = .returned (.tuple #[.agg #[.int .i64 0, .int .i64 b, .bool false], .int .i64 0]) := he
        have L10 := Lib.hid (show Lk w S cb D 8 a [cwH b] (fun x => False ∨ x = w1.heap.size) w10 from hl10)
        have HT := Lib.hid (lk_hits L10.out)
        have LN := Lib.hid (show Calls Tryd.prog 41 #[.pointer (some ⟨cb, 0, none⟩)] w10 (fun e W' => e = .returned (.int .i64 1) ∧ w10 = W') from lk_len L10.out)
        have B10 := Lib.hid L10.out.bel
        clear hl10 hk10 c0 c1 c2 c3 c4 FD
        go_wp2_with (first | (go_at_call 42; refine (HT.out).mono ?_; rintro e w' ⟨rfl, rfl⟩) | (go_at_call 41; refine (LN.out).mono ?_; rintro e w' ⟨rfl, rfl⟩))
        go_ret
        exact ⟨rfl, B10.out⟩
end Go.Proofs.YtdlemkmkheokkaaDoor
