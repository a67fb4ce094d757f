/- turnkeylaw10.CacheEldest answers true for every input: the walk. -/
import Derived.Test.YtdlemkmkheokkaaDoorEc
namespace Go.Proofs.YtdlemkmkheokkaaDoor
open Go.RowKit

set_option maxRecDepth 100000 in
set_option maxHeartbeats 4000000 in
theorem cacheEldest_walk (size0 n0 : Int) (a : Nat → Addr) (w : World) (hE : Errs w a) : Calls Tryd.prog 11 #[.int .i64 size0, .int .i64 n0] w (TrueBelow w) := by
  obtain ⟨s, hs, hs8⟩ : ∃ s : Nat, numB size0 8 = (s : Int) ∧ s < 8 := ⟨(numB size0 8).toNat, by have := numB_range size0 8 (by omega); omega, by have := numB_range size0 8 (by omega); omega⟩
  obtain ⟨m, hm, hm16⟩ : ∃ m : Nat, numB n0 16 = (m : Int) ∧ m < 16 := ⟨(numB n0 16).toNat, by have := numB_range n0 16 (by omega); omega, by have := numB_range n0 16 (by omega); omega⟩
  have NS := Lib.hid (fun W => hs ▸ number_any size0 8 W (by omega) (by omega))
  have NM := Lib.hid (fun W => hm ▸ number_any n0 16 W (by omega) (by omega))
  have F10 := Lib.hid (fun W => first10 W)
  have SN := Lib.hid (show ∀ W, Calls Tryd.prog 18 #[.int .i64 1, .int .i64 16] W (NewSto W 1 16) from fun W => store_new 1 16 W (by omega) (by omega) (by omega) (by omega))
  have CN := Lib.hid (show ∀ W, Calls Tryd.prog 39 #[.int .i64 ((s : Int) + 1)] W (NewCa W ((s : Int) + 1)) from fun W => cache_new _ W (by omega) (by omega))
  have HE := Lib.hid hE
  clear hs hm hE
  go_enter Tryd.func11, Tryd.ntmps11
  go_wp2_with (fail)
  go_at_call 38
  refine (F10.out _).mono ?_
  rintro e w1 ⟨rfl, hb1⟩
  have HB1 := Lib.hid hb1
  clear hb1
  go_wp2_with (fail)
  go_at_call 26
  refine (NS.out _).mono ?_
  rintro e w' ⟨rfl, rfl⟩
  go_wp2_with (fail)
  go_at_call 26
  refine (NM.out _).mono ?_
  rintro e w' ⟨rfl, rfl⟩
  go_wp2_with (fail)
  go_at_call 18
  refine (SN.out _).mono ?_
  rintro e w2 ⟨S, rfl, hs, hx, hb2⟩
  have L2 := Lib.hid (show LwS w S (SC.new 1 16) w2 from ⟨hs, HB1.out.trans (hb2.mono HB1.out.size), fun x h => Nat.le_trans HB1.out.size (hx x h)⟩)
  clear hs hx hb2 HB1 SN F10 NS NM
  go_wp2_with (fail)
  go_at_call 39
  refine (CN.out _).mono ?_
  rintro e w3 ⟨cb, rfl, hcb, hc, hb3⟩
  have L3 := Lib.hid (Lk.start L2.out hc hcb hb3 (by omega) (by omega))
  have z0 := L3.out.sto.p0
  clear hcb hc hb3 L2 CN
  go_wp2_with (fail)
  go_at_call 21
  refine (nmake0 S.n 1 AC.zero (SC.new 1 16).nk 0 _ L3.out.sto.no (by omega) (by omega) (fun j h => absurd h (Nat.not_lt_zero j)) rfl rfl).mono ?_
  rintro e w4 ⟨rfl, hno, ho⟩
  obtain ⟨D4, hD4⟩ : ∃ D, D = { SC.new 1 16 with na := (SC.new 1 16).na.take 0, nk := up (SC.new 1 16).nk 0 (nodeKeys 0 K.zero) } := ⟨_, rfl⟩
  have L4 := Lib.hid (show Lk w S cb D4 ((s : Int) + 1) 0 [] (fun _ => False) w4 from hD4 ▸ (L3.out.make hno ho).1)
  have F4 := Lib.hid (show Fl 1 16 (acPre 0) pkE 0 D4 by subst hD4; exact ⟨rfl, rfl, acPre_zero.symm, take_pre0, fun s h => absurd h (Nat.not_lt_zero s)⟩)
  clear hno ho hD4 L3 z0
  have hm1 : IntKind.i64.wrap ((m : Int) + 1) = (m : Int) + 1 := IntWalk.i64_in _ (by omega)
  go_wp2_with (fail)
  go_loopw [10] (fun t wr => ∃ (n : Nat) (D : SC), n ≤ m + 1 ∧ t = .int .i64 n ∧ Hid (Lk w S cb D ((s : Int) + 1) 0 [] (fun _ => False) wr) ∧ Hid (Fl 1 16 (acPre n) pkE n D)) (fun t _ => m + 1 - (intOf t).toNat)
  case atStart => exact ⟨0, D4, by omega, rfl, L4, F4⟩
  case round =>
    clear L4 F4
    obtain ⟨n, D, hn, rfl, I, L⟩ := hrel
    by_cases hnm : n < m + 1
    · have hb : (n : Int) < (m : Int) + 1 := by omega
      have q1 := I.out.sto.p1
      have lq1 := I.out.sto.lt S.s (.inl rfl)
      have PM := pmake0 S.p D.pc D.pa D.pw n wr I.out.sto.pg (by rw [L.out.pc]; omega) (by rw [L.out.pc]; omega) (fun j h => by rw [L.out.pa]; exact acPre_th n j h) (by rw [L.out.pa]; exact acPre_not n n (Nat.le_refl _)) (by rw [L.out.pa]; rfl)
      rw [L.out.pa] at PM
      have PM1 := Lib.hid PM
      clear PM
      go_wp2_with (fail)
      go_at_call 19
      refine (PM1.out).mono ?_
      rintro e w5 ⟨rfl, hpg, ho⟩
      obtain ⟨D5, hD5⟩ : ∃ D5 : SC, D5 = { D with pa := (acPre n).take n, pw := up D.pw n (pageWords 0 fun _ => 0) } := ⟨_, rfl⟩
      have L5 := Lib.hid (show Lk w S cb D5 ((s : Int) + 1) 0 [] (fun _ => False) w5 from hD5 ▸ (I.out.page hpg ho).1)
      have F5 := Lib.hid (show Fl 1 16 (acPre (n + 1)) pkE n D5 from hD5 ▸ L.out.pageE _)
      clear hpg ho q1 lq1 PM1 hD5 I L
      have z0 := L5.out.sto.p0
      have lz := L5.out.sto.lt S.s (.inl rfl)
      have NK := Lib.hid (show Calls Tryd.prog 20 #[.pointer (some ⟨S.s, 0, none⟩), .int .i64 n] w5.drew (KeyBelow w5.drew (pkE n)) by
        have := page_key S D5 n w5.drew L5.out.drew.sto (by rw [F5.out.pc]; omega) (by rw [F5.out.pa]; exact acPre_th (n + 1) n (by omega))
        rw [F5.out.pa] at this
        exact this)
      go_wp2_with (fail)
      go_region_held3 (fun W => W.cell? ⟨S.s, 0, none⟩ = some (.pointer (some ⟨S.n.b, 0, none⟩)))
        (first | exact z0 | go_keep)
        ((first | (go_at_call 20; refine NK.out.mono ?_; rintro e w6 ⟨rfl, hb6⟩; have J6 := Lib.hid (L5.out.drew.below hb6); have z0 := J6.out.sto.p0; clear hb6) | (go_at_call 24; refine (set_yes S.n D5.nc D5.na D5.nk 0 n (pkE n) _ J6.out.sto.no (by rw [F5.out.nc]; omega) (by rw [F5.out.nc]; omega) (by rw [F5.out.na]; exact acPre_th 1 0 (by omega)) (by omega) (ok_page n (by omega) (by omega))).mono ?_; rintro e w7 ⟨rfl, hno, ho⟩; have J7 := Lib.hid (J6.out.set hno ho).1; have z0 := J7.out.sto.p0; clear hno ho)))
      go_wp2
      go_roundw
      case rel => exact ⟨n + 1, _, by omega, by go_num, J7, Lib.hid F5.out.set⟩
      case measure => simp [intOf]; omega
    · obtain rfl : n = m + 1 := by omega
      have hb : ¬ ((m : Int) + 1) < (m : Int) + 1 := by omega
      have NK := Lib.hid (show Calls Tryd.prog 22 #[.pointer (some ⟨S.s, 0, none⟩), .int .i64 0, .int .i64 1] wr (KeyBelow wr kn0) by
        have := node_key S D 0 1 wr I.out.sto (by rw [L.out.nc]; omega) (by rw [L.out.na]; exact acPre_th 1 0 (by omega)) (by omega) (by omega)
        rw [L.out.na] at this
        exact this)
      go_wp2_with (fail)
      go_at_call 22
      refine (NK.out).mono ?_
      rintro e w8 ⟨rfl, hb8⟩
      have L8 := Lib.hid ((I.out.below hb8).new (.cells #[.int .i64 2, .int .i64 0, .int .i64 0, .int .i64 0, .int .u32 1] 36))
      have RK := Lib.hid (kn0.box w8 36)
      clear hb8 NK I
      go_wp2_with (fail)
      have es : ((s + 1 : Nat) : Int) = (s : Int) + 1 := by push_cast; rfl
      have FE := Lib.hid (fun (i : Nat) (hi : i < m + 1) (W : World) (h : Lk w S cb D ((s : Int) + 1) 0 (csE (s + 1) i) (fun x => False ∨ x = w8.heap.size) W) => show Calls Tryd.prog 40 #[.pointer (some ⟨cb, 0, none⟩), .pointer (some ⟨S.s, 0, none⟩), kn0.v, .int .u32 (32 * (i : Int))] W (FindL w S cb D ((s : Int) + 1) 0 (fun x => False ∨ x = w8.heap.size) (⟨i, 0, false, 0⟩, false, csE (s + 1) (i + 1)) W) from by
        have := lk_find kn0 (32 * (i : Int)) h (by omega) (by omega) (by omega) (by omega)
        have f := find_new (s := s + 1) L.out (by omega) i hi (by omega)
        rw [es] at f
        rw [f] at this
        exact this)
      have FF := Lib.hid (fun (W : World) (h : Lk w S cb D ((s : Int) + 1) 0 (csE (s + 1) (m + 1)) (fun x => False ∨ x = w8.heap.size) W) => show Calls Tryd.prog 40 #[.pointer (some ⟨cb, 0, none⟩), .pointer (some ⟨S.s, 0, none⟩), kn0.v, .int .u32 600] W (FindL w S cb D ((s : Int) + 1) 0 (fun x => False ∨ x = w8.heap.size) (⟨0, 0, false, 3⟩, false, csE (s + 1) (m + 1)) W) from by
        have := lk_find kn0 600 h (by omega) (by omega) (by omega) (by omega)
        have f := find_far (s := s + 1) L.out (by omega)
        rw [es] at f
        rw [f] at this
        exact this)
      have FO := Lib.hid (fun (i : Nat) (hits : Int) (h0 : 0 ≤ hits) (h1 : hits ≤ 1000) (hi0 : m + 1 - (s + 1) ≤ i) (hi : i < m + 1) (W : World) (h : Lk w S cb D ((s : Int) + 1) hits (csE (s + 1) (m + 1)) (fun x => False ∨ x = w8.heap.size) W) => show Calls Tryd.prog 40 #[.pointer (some ⟨cb, 0, none⟩), .pointer (some ⟨S.s, 0, none⟩), kn0.v, .int .u32 (32 * (i : Int) + 5)] W (FindL w S cb D ((s : Int) + 1) hits (fun x => False ∨ x = w8.heap.size) (⟨i, 5, false, 0⟩, true, csE (s + 1) (m + 1)) W) from by
        have := lk_find kn0 (32 * (i : Int) + 5) h (by omega) (by omega) h0 h1
        have f := find_old (D := D) (s := s + 1) (n := m + 1) i hi0 hi
        rw [es] at f
        rw [f] at this
        exact this)
      have HE9 := Lib.hid (fun (W : World) (b : Below w.heap.size w W) => HE.out.below b)
      clear L es
      go_loopw [12] (fun t wr => ∃ i : Nat, i ≤ m + 1 ∧ t = .int .i64 i ∧ Hid (Lk w S cb D ((s : Int) + 1) 0 (csE (s + 1) i) (fun x => False ∨ x = w8.heap.size) wr ∧ Row wr w8.heap.size 5 kn0.cell)) (fun t _ => m + 1 - (intOf t).toNat)
      case atStart => exact ⟨0, by omega, rfl, (show csE (s + 1) 0 = [] by simp [csE]) ▸ L8.out, RK.out⟩
      case round =>
        clear L8 RK
        obtain ⟨i, hi, rfl, I⟩ := hrel
        have c0 : wr.cell? ⟨w8.heap.size, 0, none⟩ = some (.int .i64 2) := I.out.2.cell 0 (by omega)
        have c1 : wr.cell? ⟨w8.heap.size, 1, none⟩ = some (.int .i64 0) := I.out.2.cell 1 (by omega)
        have c2 : wr.cell? ⟨w8.heap.size, 2, none⟩ = some (.int .i64 0) := I.out.2.cell 2 (by omega)
        have c3 : wr.cell? ⟨w8.heap.size, 3, none⟩ = some (.int .i64 0) := I.out.2.cell 3 (by omega)
        have c4 : wr.cell? ⟨w8.heap.size, 4, none⟩ = some (.int .u32 1) := I.out.2.cell 4 (by omega)
        by_cases hil : i < m + 1
        · have hb2 : (i : Int) < (m : Int) + 1 := by omega
          have hi16 : (i : Int) < 16 := by omega
          have FD := Lib.hid (FE.out i hil wr I.out.1)
          go_wp2_with (fail)
          go_at_call 40
          refine (FD.out).mono ?_
          rintro e w9 ⟨he, hl9, hk9⟩
          obtain rfl : e = .returned (.tuple #[.agg #[.int .i64 i, .int .i64 0, .bool false], .int .i64 0]) := he
          have J9 : Hid (Lk w S cb D ((s : Int) + 1) 0 (csE (s + 1) (i + 1)) (fun x => False ∨ x = w8.heap.size) w9 ∧ Row w9 w8.heap.size 5 kn0.cell) := ⟨hl9, I.out.2.of_block (w' := w9) (hk9.2 _ (.inr rfl))⟩
          clear hl9 hk9 FD I c0 c1 c2 c3 c4
          go_wp2
          go_roundw
          case rel => exact ⟨i + 1, by omega, by go_num, J9⟩
          case measure => simp [intOf]; omega
        · obtain rfl : i = m + 1 := by omega
          have FD := Lib.hid (FF.out wr I.out.1)
          clear FE FF
          go_wp2_with (fail)
          go_at_call 40
          refine (FD.out).mono ?_
          rintro e w9 ⟨he, hl9, hk9⟩
          obtain rfl : e = .returned (.tuple #[.agg #[.int .i64 0, .int .i64 0, .bool false], .int .i64 3]) := he
          have L9 := Lib.hid (show Lk w S cb D ((s : Int) + 1) 0 (csE (s + 1) (m + 1)) (fun x => False ∨ x = w8.heap.size) w9 from hl9)
          have RK9 := Lib.hid (I.out.2.of_block (w' := w9) (hk9.2 _ (.inr rfl)))
          clear hl9 hk9 FD I c0 c1 c2 c3 c4
          have HT := Lib.hid (lk_hits L9.out)
          rcases Nat.lt_trichotomy s m with hsm | hsm | hsm
          · have hx : ¬ m < s := by omega
            have LN := Lib.hid (show Calls Tryd.prog 41 #[.pointer (some ⟨cb, 0, none⟩)] w9 (fun e W' => e = .returned (.int .i64 ((s : Int) + 1)) ∧ w9 = W') from by have := lk_len L9.out; rw [csE_len, show ((min (m + 1) (s + 1) : Nat) : Int) = ((s : Int) + 1) by omega] at this; exact this)
            go_wp2_with (first | (go_at_call 42; refine (HT.out).mono ?_; rintro e w' ⟨rfl, rfl⟩) | (go_at_call 41; refine (LN.out).mono ?_; rintro e w' ⟨rfl, rfl⟩))
            clear HT LN
            go_loopw [13] (fun t wr => ∃ i : Nat, m - s ≤ i ∧ i ≤ m + 1 ∧ t = .int .i64 i ∧ Hid (Lk w S cb D ((s : Int) + 1) ((i : Int) - (m - s : Nat)) (csE (s + 1) (m + 1)) (fun x => False ∨ x = w8.heap.size) wr ∧ Row wr w8.heap.size 5 kn0.cell)) (fun t _ => m + 1 - (intOf t).toNat)
            case atStart => exact ⟨m - s, Nat.le_refl _, by omega, by rw [show ((m - s : Nat) : Int) = (m : Int) + 1 - (s + 1) by omega], by rw [Int.sub_self]; exact L9.out, RK9.out⟩
            case round =>
              clear L9 RK9
              obtain ⟨i, hi0, hi, rfl, I⟩ := hrel
              have c0 : wr.cell? ⟨w8.heap.size, 0, none⟩ = some (.int .i64 2) := I.out.2.cell 0 (by omega)
              have c1 : wr.cell? ⟨w8.heap.size, 1, none⟩ = some (.int .i64 0) := I.out.2.cell 1 (by omega)
              have c2 : wr.cell? ⟨w8.heap.size, 2, none⟩ = some (.int .i64 0) := I.out.2.cell 2 (by omega)
              have c3 : wr.cell? ⟨w8.heap.size, 3, none⟩ = some (.int .i64 0) := I.out.2.cell 3 (by omega)
              have c4 : wr.cell? ⟨w8.heap.size, 4, none⟩ = some (.int .u32 1) := I.out.2.cell 4 (by omega)
              by_cases hil : i < m + 1
              · have hb2 : (i : Int) < (m : Int) + 1 := by omega
                have hi16 : (i : Int) < 16 := by omega
                have FD := Lib.hid (FO.out i ((i : Int) - (m - s : Nat)) (by omega) (by omega) (by omega) hil wr I.out.1)
                go_wp2_with (fail)
                go_at_call 40
                refine (FD.out).mono ?_
                rintro e w10 ⟨he, hl9, hk9⟩
                obtain rfl : e = .returned (.tuple #[.agg #[.int .i64 i, .int .i64 5, .bool false], .int .i64 0]) := he
                have J9 : Hid (Lk w S cb D ((s : Int) + 1) (((i + 1 : Nat) : Int) - (m - s : Nat)) (csE (s + 1) (m + 1)) (fun x => False ∨ x = w8.heap.size) w10 ∧ Row w10 w8.heap.size 5 kn0.cell) := ⟨by
                  rw [show ((i + 1 : Nat) : Int) - (m - s : Nat) = (i : Int) - (m - s : Nat) + 1 by omega]
                  exact hl9, I.out.2.of_block (w' := w10) (hk9.2 _ (.inr rfl))⟩
                clear hl9 hk9 FD I c0 c1 c2 c3 c4
                go_wp2
                go_roundw
                case rel => exact ⟨i + 1, by omega, by omega, by go_num, J9⟩
                case measure => simp [intOf]; omega
              · obtain rfl : i = m + 1 := by omega
                have L9 := I.out.1
                rw [show ((m + 1 : Nat) : Int) - (m - s : Nat) = ((s : Int) + 1) by omega] at L9
                have HT := Lib.hid (lk_hits L9)
                have BW := Lib.hid L9.bel
                have HG := Lib.hid (fun (W : World) (b : Below w.heap.size w W) => cache_range 0 a W (HE9.out W b) (.inl (by omega)))
                have HH := Lib.hid (fun (W : World) (b : Below w.heap.size w W) => cache_range 65 a W (HE9.out W b) (.inr (by omega)))
                have IR := Lib.hid (fun (W : World) (b : Below w.heap.size w W) => is_range a W (HE9.out W b))
                clear L9 I c0 c1 c2 c3 c4 FO HE HE9 hi0 hil
                go_wp2_with (first | (go_at_call 42; refine (HT.out).mono ?_; rintro e w' ⟨rfl, rfl⟩))
                go_at_call 39
                refine (HG.out _ BW.out).mono ?_
                rintro e w11 ⟨rfl, hb11⟩
                have B11 := Lib.hid (BW.out.trans (hb11.mono BW.out.size))
                clear hb11 HG
                go_wp2_with (fail)
                go_at_call 39
                refine (HH.out _ B11.out).mono ?_
                rintro e w12 ⟨rfl, hb12⟩
                have B12 := Lib.hid (B11.out.trans (hb12.mono B11.out.size))
                clear hb12 HH
                go_wp2_with (fail)
                go_at_call 43
                refine (IR.out _ B12.out).mono ?_
                rintro e w13 ⟨rfl, hb13⟩
                have B13 := Lib.hid (B12.out.trans (hb13.mono B12.out.size))
                clear hb13
                go_wp2_with (fail)
                go_at_call 43
                refine (IR.out _ B13.out).mono ?_
                rintro e w14 ⟨rfl, hb14⟩
                have B14 := Lib.hid (B13.out.trans (hb14.mono B13.out.size))
                clear hb14
                go_wp2
                go_ret
                exact ⟨rfl, B14.out⟩
          · have hx : ¬ m < s := by omega
            have hx2 : ¬ s < m := by omega
            have hx3 : (s : Int) = m := by omega
            have LN := Lib.hid (show Calls Tryd.prog 41 #[.pointer (some ⟨cb, 0, none⟩)] w9 (fun e W' => e = .returned (.int .i64 ((m : Int) + 1)) ∧ w9 = W') from by have := lk_len L9.out; rw [csE_len, show ((min (m + 1) (s + 1) : Nat) : Int) = ((m : Int) + 1) by omega] at this; exact this)
            go_wp2_with (first | (go_at_call 42; refine (HT.out).mono ?_; rintro e w' ⟨rfl, rfl⟩) | (go_at_call 41; refine (LN.out).mono ?_; rintro e w' ⟨rfl, rfl⟩))
            clear HT LN
            go_loopw [13] (fun t wr => ∃ i : Nat, m - s ≤ i ∧ i ≤ m + 1 ∧ t = .int .i64 i ∧ Hid (Lk w S cb D ((s : Int) + 1) ((i : Int) - (m - s : Nat)) (csE (s + 1) (m + 1)) (fun x => False ∨ x = w8.heap.size) wr ∧ Row wr w8.heap.size 5 kn0.cell)) (fun t _ => m + 1 - (intOf t).toNat)
            case atStart => exact ⟨m - s, Nat.le_refl _, by omega, by rw [show ((m - s : Nat) : Int) = 0 by omega], by rw [Int.sub_self]; exact L9.out, RK9.out⟩
            case round =>
              clear L9 RK9
              obtain ⟨i, hi0, hi, rfl, I⟩ := hrel
              have c0 : wr.cell? ⟨w8.heap.size, 0, none⟩ = some (.int .i64 2) := I.out.2.cell 0 (by omega)
              have c1 : wr.cell? ⟨w8.heap.size, 1, none⟩ = some (.int .i64 0) := I.out.2.cell 1 (by omega)
              have c2 : wr.cell? ⟨w8.heap.size, 2, none⟩ = some (.int .i64 0) := I.out.2.cell 2 (by omega)
              have c3 : wr.cell? ⟨w8.heap.size, 3, none⟩ = some (.int .i64 0) := I.out.2.cell 3 (by omega)
              have c4 : wr.cell? ⟨w8.heap.size, 4, none⟩ = some (.int .u32 1) := I.out.2.cell 4 (by omega)
              by_cases hil : i < m + 1
              · have hb2 : (i : Int) < (m : Int) + 1 := by omega
                have hi16 : (i : Int) < 16 := by omega
                have FD := Lib.hid (FO.out i ((i : Int) - (m - s : Nat)) (by omega) (by omega) (by omega) hil wr I.out.1)
                go_wp2_with (fail)
                go_at_call 40
                refine (FD.out).mono ?_
                rintro e w10 ⟨he, hl9, hk9⟩
                obtain rfl : e = .returned (.tuple #[.agg #[.int .i64 i, .int .i64 5, .bool false], .int .i64 0]) := he
                have J9 : Hid (Lk w S cb D ((s : Int) + 1) (((i + 1 : Nat) : Int) - (m - s : Nat)) (csE (s + 1) (m + 1)) (fun x => False ∨ x = w8.heap.size) w10 ∧ Row w10 w8.heap.size 5 kn0.cell) := ⟨by
                  rw [show ((i + 1 : Nat) : Int) - (m - s : Nat) = (i : Int) - (m - s : Nat) + 1 by omega]
                  exact hl9, I.out.2.of_block (w' := w10) (hk9.2 _ (.inr rfl))⟩
                clear hl9 hk9 FD I c0 c1 c2 c3 c4
                go_wp2
                go_roundw
                case rel => exact ⟨i + 1, by omega, by omega, by go_num, J9⟩
                case measure => simp [intOf]; omega
              · obtain rfl : i = m + 1 := by omega
                have L9 := I.out.1
                rw [show ((m + 1 : Nat) : Int) - (m - s : Nat) = ((m : Int) + 1) by omega] at L9
                have HT := Lib.hid (lk_hits L9)
                have BW := Lib.hid L9.bel
                have HG := Lib.hid (fun (W : World) (b : Below w.heap.size w W) => cache_range 0 a W (HE9.out W b) (.inl (by omega)))
                have HH := Lib.hid (fun (W : World) (b : Below w.heap.size w W) => cache_range 65 a W (HE9.out W b) (.inr (by omega)))
                have IR := Lib.hid (fun (W : World) (b : Below w.heap.size w W) => is_range a W (HE9.out W b))
                clear L9 I c0 c1 c2 c3 c4 FO HE HE9 hi0 hil
                go_wp2_with (first | (go_at_call 42; refine (HT.out).mono ?_; rintro e w' ⟨rfl, rfl⟩))
                go_at_call 39
                refine (HG.out _ BW.out).mono ?_
                rintro e w11 ⟨rfl, hb11⟩
                have B11 := Lib.hid (BW.out.trans (hb11.mono BW.out.size))
                clear hb11 HG
                go_wp2_with (fail)
                go_at_call 39
                refine (HH.out _ B11.out).mono ?_
                rintro e w12 ⟨rfl, hb12⟩
                have B12 := Lib.hid (B11.out.trans (hb12.mono B11.out.size))
                clear hb12 HH
                go_wp2_with (fail)
                go_at_call 43
                refine (IR.out _ B12.out).mono ?_
                rintro e w13 ⟨rfl, hb13⟩
                have B13 := Lib.hid (B12.out.trans (hb13.mono B12.out.size))
                clear hb13
                go_wp2_with (fail)
                go_at_call 43
                refine (IR.out _ B13.out).mono ?_
                rintro e w14 ⟨rfl, hb14⟩
                have B14 := Lib.hid (B13.out.trans (hb14.mono B13.out.size))
                clear hb14
                go_wp2
                go_ret
                exact ⟨rfl, B14.out⟩
          · have hx2 : ¬ s < m := by omega
            have LN := Lib.hid (show Calls Tryd.prog 41 #[.pointer (some ⟨cb, 0, none⟩)] w9 (fun e W' => e = .returned (.int .i64 ((m : Int) + 1)) ∧ w9 = W') from by have := lk_len L9.out; rw [csE_len, show ((min (m + 1) (s + 1) : Nat) : Int) = ((m : Int) + 1) by omega] at this; exact this)
            go_wp2_with (first | (go_at_call 42; refine (HT.out).mono ?_; rintro e w' ⟨rfl, rfl⟩) | (go_at_call 41; refine (LN.out).mono ?_; rintro e w' ⟨rfl, rfl⟩))
            clear HT LN
            go_loopw [13] (fun t wr => ∃ i : Nat, m - s ≤ i ∧ i ≤ m + 1 ∧ t = .int .i64 i ∧ Hid (Lk w S cb D ((s : Int) + 1) ((i : Int) - (m - s : Nat)) (csE (s + 1) (m + 1)) (fun x => False ∨ x = w8.heap.size) wr ∧ Row wr w8.heap.size 5 kn0.cell)) (fun t _ => m + 1 - (intOf t).toNat)
            case atStart => exact ⟨m - s, Nat.le_refl _, by omega, by rw [show ((m - s : Nat) : Int) = 0 by omega], by rw [Int.sub_self]; exact L9.out, RK9.out⟩
            case round =>
              clear L9 RK9
              obtain ⟨i, hi0, hi, rfl, I⟩ := hrel
              have c0 : wr.cell? ⟨w8.heap.size, 0, none⟩ = some (.int .i64 2) := I.out.2.cell 0 (by omega)
              have c1 : wr.cell? ⟨w8.heap.size, 1, none⟩ = some (.int .i64 0) := I.out.2.cell 1 (by omega)
              have c2 : wr.cell? ⟨w8.heap.size, 2, none⟩ = some (.int .i64 0) := I.out.2.cell 2 (by omega)
              have c3 : wr.cell? ⟨w8.heap.size, 3, none⟩ = some (.int .i64 0) := I.out.2.cell 3 (by omega)
              have c4 : wr.cell? ⟨w8.heap.size, 4, none⟩ = some (.int .u32 1) := I.out.2.cell 4 (by omega)
              by_cases hil : i < m + 1
              · have hb2 : (i : Int) < (m : Int) + 1 := by omega
                have hi16 : (i : Int) < 16 := by omega
                have FD := Lib.hid (FO.out i ((i : Int) - (m - s : Nat)) (by omega) (by omega) (by omega) hil wr I.out.1)
                go_wp2_with (fail)
                go_at_call 40
                refine (FD.out).mono ?_
                rintro e w10 ⟨he, hl9, hk9⟩
                obtain rfl : e = .returned (.tuple #[.agg #[.int .i64 i, .int .i64 5, .bool false], .int .i64 0]) := he
                have J9 : Hid (Lk w S cb D ((s : Int) + 1) (((i + 1 : Nat) : Int) - (m - s : Nat)) (csE (s + 1) (m + 1)) (fun x => False ∨ x = w8.heap.size) w10 ∧ Row w10 w8.heap.size 5 kn0.cell) := ⟨by
                  rw [show ((i + 1 : Nat) : Int) - (m - s : Nat) = (i : Int) - (m - s : Nat) + 1 by omega]
                  exact hl9, I.out.2.of_block (w' := w10) (hk9.2 _ (.inr rfl))⟩
                clear hl9 hk9 FD I c0 c1 c2 c3 c4
                go_wp2
                go_roundw
                case rel => exact ⟨i + 1, by omega, by omega, by go_num, J9⟩
                case measure => simp [intOf]; omega
              · obtain rfl : i = m + 1 := by omega
                have L9 := I.out.1
                rw [show ((m + 1 : Nat) : Int) - (m - s : Nat) = ((m : Int) + 1) by omega] at L9
                have HT := Lib.hid (lk_hits L9)
                have BW := Lib.hid L9.bel
                have HG := Lib.hid (fun (W : World) (b : Below w.heap.size w W) => cache_range 0 a W (HE9.out W b) (.inl (by omega)))
                have HH := Lib.hid (fun (W : World) (b : Below w.heap.size w W) => cache_range 65 a W (HE9.out W b) (.inr (by omega)))
                have IR := Lib.hid (fun (W : World) (b : Below w.heap.size w W) => is_range a W (HE9.out W b))
                clear L9 I c0 c1 c2 c3 c4 FO HE HE9 hi0 hil
                go_wp2_with (first | (go_at_call 42; refine (HT.out).mono ?_; rintro e w' ⟨rfl, rfl⟩))
                go_at_call 39
                refine (HG.out _ BW.out).mono ?_
                rintro e w11 ⟨rfl, hb11⟩
                have B11 := Lib.hid (BW.out.trans (hb11.mono BW.out.size))
                clear hb11 HG
                go_wp2_with (fail)
                go_at_call 39
                refine (HH.out _ B11.out).mono ?_
                rintro e w12 ⟨rfl, hb12⟩
                have B12 := Lib.hid (B11.out.trans (hb12.mono B11.out.size))
                clear hb12 HH
                go_wp2_with (fail)
                go_at_call 43
                refine (IR.out _ B12.out).mono ?_
                rintro e w13 ⟨rfl, hb13⟩
                have B13 := Lib.hid (B12.out.trans (hb13.mono B12.out.size))
                clear hb13
                go_wp2_with (fail)
                go_at_call 43
                refine (IR.out _ B13.out).mono ?_
                rintro e w14 ⟨rfl, hb14⟩
                have B14 := Lib.hid (B13.out.trans (hb14.mono B13.out.size))
                clear hb14
                go_wp2
                go_ret
                exact ⟨rfl, B14.out⟩
end Go.Proofs.YtdlemkmkheokkaaDoor
