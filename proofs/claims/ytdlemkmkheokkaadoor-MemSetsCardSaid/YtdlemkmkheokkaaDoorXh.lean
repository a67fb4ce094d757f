/- The contract of turnkeylaw10.made, over whatever Tree hands back. -/
import Derived.Test.YtdlemkmkheokkaaDoorXf
namespace Go.Proofs.YtdlemkmkheokkaaDoor
open Go.RowKit

def Made10 (w : World) (C : YC) (k : K) (e : Ending) (w' : World) : Prop :=
  ∃ S : SA, e = .returned (.tuple #[.pointer (some ⟨S.s, 0, none⟩), k.v]) ∧ Sto w' S (copyC C) ∧ (∀ x, S.has x → w.heap.size ≤ x) ∧ Below w.heap.size w w'

set_option maxRecDepth 100000 in
set_option maxHeartbeats 4000000 in
theorem made10 (h : Int) (A : Option Addr) (n cap : Nat) (C : YC) (k : K) (w : World) (hCn : C.n = 16) (hCp : C.p = 16) (hok : ∀ a, a < C.nm → ∀ b, b < 16 → okK (C.nk a b))
    (hT : ∀ W Y, Below w.heap.size w W → (∀ x, Y.has x → w.heap.size ≤ x) → Sy W Y (YC.new 16 16) → Calls Tryd.prog 74 #[.pointer (some ⟨Y.b, 0, none⟩), .int .i64 h, .slice A n cap] W (TreeP W Y C k)) :
    Calls Tryd.prog 46 #[.int .i64 h, .slice A n cap] w (Made10 w C k) := by
  have SM := Lib.hid (show ∀ W, Calls Tryd.prog 73 #[.int .i64 16, .int .i64 16] W (NewSy W 16 16) from fun W => small_any 16 16 W (by omega) (by omega) (by omega) (by omega))
  have SN := Lib.hid (show ∀ W, Calls Tryd.prog 18 #[.int .i64 16, .int .i64 16] W (NewSto W 16 16) from fun W => store_new 16 16 W (by omega) (by omega) (by omega) (by omega))
  have HT := Lib.hid hT
  have HOK := Lib.hid hok
  have HN := Lib.hid hCn
  have HP := Lib.hid hCp
  clear hT hok hCn hCp
  go_enter Tryd.func46, Tryd.ntmps46
  go_wp2_with (fail)
  go_at_call 73
  refine (SM.out _).mono ?_
  rintro e w1 ⟨Y, rfl, hy, hx, hb⟩
  have hb1 : Below w.heap.size w w1 := ((Below.refl _ w).alloc (Nat.le_refl _) _).trans (hb.mono (by simp))
  have TR := Lib.hid (HT.out w1 Y hb1 (fun x h => by have := hx x h; simp at this; omega) hy)
  have HB1 := Lib.hid hb1
  have HX := Lib.hid (show ∀ x, Y.has x → w.heap.size + 1 ≤ x from fun x h => by have := hx x h; simpa using this)
  have BX := Lib.hid ((K.zero.box w 36).below hb)
  clear hy hx hb hb1 HT
  go_wp2_with (fail)
  go_at_call 74
  refine (TR.out).mono ?_
  rintro e w2 ⟨rfl, hy, ho⟩
  have HY := Lib.hid hy
  have hXlt : ∀ x, Y.X x → w.heap.size + 1 ≤ x := by
    intro x h
    exact HX.out x (by rcases h with rfl | rfl | rfl | rfl; exact .inr (.inr (.inl rfl)); exact .inr (.inr (.inr (.inr rfl))); exact .inr (.inl rfl); exact .inr (.inr (.inr (.inl rfl))))
  have HB2 := Lib.hid (below_only HB1.out HB1.out.size ho (fun i _ h => by have := hXlt i h; omega))
  have BX2 := Lib.hid (BX.out.only ho (fun h => by have := hXlt _ h; omega))
  have S2 := HB2.out.size
  clear hy ho hXlt TR BX HB1
  go_wp2_with (fail)
  go_at_call 18
  refine (SN.out _).mono ?_
  rintro e w3 ⟨S, rfl, hs, hx, hb⟩
  have I0 : Hid (MkI w.heap.size w Y C w.heap.size w2.heap.size k S (stC C 0 0 0 0) w3) := by
    have hb2 : Below w2.heap.size w2 (w2.alloc (.cells #[.int .i64 k.kind, .int .i64 k.id, .int .i64 k.ver, .int .i64 k.rights, .int .u32 k.data] 36)) := (Below.refl _ w2).alloc (Nat.le_refl _) _
    have hb3 : Below w2.heap.size w2 w3 := hb2.trans (hb.mono (by simp))
    have hx' : ∀ x, S.has x → w2.heap.size + 1 ≤ x := fun x h => by have := hx x h; simpa using this
    have z2 := BX2.out.lt
    refine ⟨?_, HY.out.below hb3, BX2.out.below hb3, (k.box w2 36).below hb, HB2.out.trans (hb3.mono S2), Nat.le_trans S2 hb3.size, ?_, ?_, ?_, ?_⟩
    · rw [stC_start, HN.out, HP.out]; exact hs
    · intro x h1 h2
      have := hx' x h2
      have := HY.out.lt x h1
      omega
    · intro h2; have := hx' _ h2; omega
    · intro h2; have := hx' _ h2; omega
    · intro x h2; have := hx' _ h2; omega
  clear hs hx hb
  have lS : w2.heap.size < w3.heap.size := I0.out.rk.lt
  go_wp2
  go_loopw [10] (fun t wr => ∃ i : Nat, i ≤ 16 ∧ t = .int .i64 i ∧ Hid (MkI w.heap.size w Y C w.heap.size w2.heap.size k S (stC C (min i C.pm) 0 0 0) wr)) (fun t _ => 16 - (intOf t).toNat)
  case atStart => exact ⟨0, by omega, rfl, by rw [Nat.zero_min]; exact I0⟩
  case round =>
    clear I0
    obtain ⟨i, hi, rfl, I⟩ := hrel
    obtain ⟨cp, c1⟩ := I.out.sy.c1
    rw [HP.out] at c1
    have pmp := I.out.sy.pmp
    have hp24 := HP.out
    by_cases hlt : i < 16
    · have a0 := I.out.sy.pr.cell (i * 4) (by omega)
      rw [slotC_live] at a0
      by_cases hlv : i < C.pm
      · have e1 : pre C.pm i = true := by simp [pre, hlv]
        rw [e1] at a0
        have q1 := I.out.sto.p1
        have c7 := I.out.sy.c7
        rw [HP.out] at c7
        have hmin : min i C.pm = i := Nat.min_eq_left (by omega)
        have J : Hid (MkI w.heap.size w Y C w.heap.size w2.heap.size k S (stC C i 0 0 0) wr) := by have := I.out; rwa [hmin] at this
        have PM := Lib.hid (pmake S.p C.p (acPre i) (stC C i 0 0 0).pw i 32 32 ⟨Y.pb, i * 32, none⟩ (C.pw i) wr.drew (J.out.sto.pg.same rfl) (by omega) (by omega) (fun j hj => acPre_th i j hj) (acPre_not i i (Nat.le_refl _)) rfl (by omega)
          (fun e => J.out.dY Y.pb (.inr (.inr (.inr (.inr rfl)))) (by rw [show Y.pb = S.p.l from e]; exact .inr (.inr (NA.hl _)))) (J.out.sy.lt Y.pb (.inr (.inr (.inr (.inr rfl)))))
          (fun j hj => by
            rw [Addr.add_mid]
            have := J.out.sy.wr.cell (i * 32 + j) (by omega)
            rw [wordCell_at _ _ _ hj] at this
            exact this))
        clear e1 hmin I pmp hp24
        go_wp2
        refine wp_region_still_tail 11 (by kernel_rfl) (by kernel_rfl) ?_
        simp only [List.take_succ_cons, List.take_zero, List.drop_succ_cons, List.drop_zero]
        iterate 11 still_step
        refine wpStill_nil ?_
        change wpList _ _ _ _ _ wr.drew
        go_wp2_with (fail)
        go_at_call 19
        refine (PM.out).mono ?_
        rintro e w5 ⟨rfl, hpg, ho⟩
        have J1 : Hid (MkI w.heap.size w Y C w.heap.size w2.heap.size k S (stC C (i + 1) 0 0 0) w5) := by
          have hX : ∀ x, (x = S.p.l ∨ x = S.p.k) → S.p.has x := by
            rintro x (rfl | rfl)
            · exact NA.hl _
            · exact NA.hk _
          have hs := (J.out.same 1 rfl).sto.setPg ho hX hpg
          rw [← stC_page]
          exact (J.out.same 1 rfl).step ho (fun x hx => .inr (.inr (hX x hx))) hs
        clear hpg ho
        go_wp2
        go_roundw
        case rel => exact ⟨i + 1, by omega, by go_num, by rw [show min (i + 1) C.pm = i + 1 from Nat.min_eq_left (by omega)]; exact J1⟩
        case measure => simp [intOf]; omega
      · have e1 : pre C.pm i = false := by simp [pre]; omega
        rw [e1] at a0
        have hmin : min i C.pm = C.pm := Nat.min_eq_right (by omega)
        rw [hmin] at I
        clear e1 hmin hp24
        go_wp2
        go_roundw
        case rel => exact ⟨i + 1, by omega, by go_num, by rw [show min (i + 1) C.pm = C.pm from Nat.min_eq_right (by omega)]; exact I⟩
        case measure => simp [intOf]; omega
    · have hmin : min i C.pm = C.pm := Nat.min_eq_right (by omega)
      rw [hmin] at I
      clear hmin hp24 pmp
      go_wp2
      clear c1
      obtain ⟨wa, rfl⟩ : ∃ wa : World, wa = wr := ⟨_, rfl⟩
      go_loopw [11] (fun t wr => ∃ i : Nat, i ≤ 16 ∧ t = .int .i64 i ∧ Hid (MkI w.heap.size w Y C w.heap.size w2.heap.size k S (stC C C.pm (min i C.nm) 0 0) wr)) (fun t _ => 16 - (intOf t).toNat)
      case atStart => exact ⟨0, by omega, rfl, by rw [Nat.zero_min]; exact I⟩
      case round =>
        clear I
        obtain ⟨i, hi, rfl, I⟩ := hrel
        obtain ⟨cn, c0⟩ := I.out.sy.c0
        rw [HN.out] at c0
        have nmn := I.out.sy.nmn
        have hn24 := HN.out
        by_cases hlt : i < 16
        · have a0 := I.out.sy.nr.cell (i * 4) (by omega)
          rw [slotC_live] at a0
          by_cases hlv : i < C.nm
          · have e1 : pre C.nm i = true := by simp [pre, hlv]
            rw [e1] at a0
            have q0 := I.out.sto.p0
            have hmin : min i C.nm = i := Nat.min_eq_left (by omega)
            have J : Hid (MkI w.heap.size w Y C w.heap.size w2.heap.size k S (stC C C.pm i 0 0) wr) := by have := I.out; rwa [hmin] at this
            have NM := Lib.hid (nmake0 S.n C.n (acPre i) (stC C C.pm i 0 0).nk i wr J.out.sto.no (by omega) (by omega) (fun j hj => acPre_th i j hj) (acPre_not i i (Nat.le_refl _)) rfl)
            clear e1 hmin I nmn hn24
            go_wp2_with (fail)
            go_at_call 21
            refine (NM.out).mono ?_
            rintro e w5 ⟨rfl, hno, ho⟩
            have J1 : Hid (MkI w.heap.size w Y C w.heap.size w2.heap.size k S (stC C C.pm (i + 1) 0 0) w5) := by
              have hX : ∀ x, (x = S.n.l ∨ x = S.n.k) → S.n.has x := by
                rintro x (rfl | rfl)
                · exact NA.hl _
                · exact NA.hk _
              have hs := J.out.sto.setNo ho hX hno
              rw [← stC_node]
              exact J.out.step ho (fun x hx => .inr (.inl (hX x hx))) hs
            clear hno ho
            go_wp2
            go_roundw
            case rel => exact ⟨i + 1, by omega, by go_num, by rw [show min (i + 1) C.nm = i + 1 from Nat.min_eq_left (by omega)]; exact J1⟩
            case measure => simp [intOf]; omega
          · have e1 : pre C.nm i = false := by simp [pre]; omega
            rw [e1] at a0
            have hmin : min i C.nm = C.nm := Nat.min_eq_right (by omega)
            rw [hmin] at I
            clear e1 hmin hn24
            go_wp2
            go_roundw
            case rel => exact ⟨i + 1, by omega, by go_num, by rw [show min (i + 1) C.nm = C.nm from Nat.min_eq_right (by omega)]; exact I⟩
            case measure => simp [intOf]; omega
        · have hmin : min i C.nm = C.nm := Nat.min_eq_right (by omega)
          rw [hmin] at I
          clear hmin hn24 nmn
          go_wp2
          clear c0
          obtain ⟨wb, rfl⟩ : ∃ wb : World, wb = wr := ⟨_, rfl⟩
          go_loopw [12, 13] (fun t _ wr => ∃ i : Nat, i ≤ 16 ∧ t = .int .i64 i ∧ Hid (MkI w.heap.size w Y C w.heap.size w2.heap.size k S (stC C C.pm C.nm i 0) wr)) (fun t _ _ => 16 - (intOf t).toNat)
          case atStart => exact ⟨0, by omega, rfl, I⟩
          case round =>
            clear I
            obtain ⟨i, hi, rfl, I⟩ := hrel
            obtain ⟨cn, c0⟩ := I.out.sy.c0
            rw [HN.out] at c0
            have nmn := I.out.sy.nmn
            have hn24 := HN.out
            by_cases hlt : i < 16
            · clear hn24
              have hb : decide ((i : Int) < 16) = true := by simp; omega
              go_wp2
              clear c0
              obtain ⟨wc, rfl⟩ : ∃ wc : World, wc = wr := ⟨_, rfl⟩
              go_loopw [13] (fun t wr => ∃ j : Nat, j ≤ 16 ∧ (j = 0 ∨ i < C.nm) ∧ t = .int .i64 j ∧ Hid (MkI w.heap.size w Y C w.heap.size w2.heap.size k S (stC C C.pm C.nm i j) wr)) (fun t _ => 16 - (intOf t).toNat)
              case atStart => exact ⟨0, by omega, .inl rfl, rfl, I⟩
              case round =>
                clear I
                obtain ⟨j, hj, hj0, rfl, I⟩ := hrel
                obtain ⟨cn, c0⟩ := I.out.sy.c0
                rw [HN.out] at c0
                have hn24 := HN.out
                have a0 := I.out.sy.nr.cell (i * 4) (by omega)
                rw [slotC_live] at a0
                by_cases hjl : j < 16
                · by_cases hlv : i < C.nm
                  · have e1 : pre C.nm i = true := by simp [pre, hlv]
                    rw [e1] at a0
                    have q0 := I.out.sto.p0
                    have c6 := I.out.sy.c6
                    rw [HN.out] at c6
                    obtain ⟨k0, k1, k2, k3, k4⟩ := I.out.sy.slotFacts i j (by omega) hjl
                    have ST := Lib.hid (set_yes S.n C.n (acPre C.nm) (stC C C.pm C.nm i j).nk i j (C.nk i j) wr.drew (I.out.sto.no.same rfl) (by omega) (by omega) (acPre_th C.nm i hlv) hjl (HOK.out i hlv j hjl))
                    clear e1 hn24 nmn
                    go_wp2
                    refine wp_region_still_tail 15 (by kernel_rfl) (by kernel_rfl) ?_
                    simp only [List.take_succ_cons, List.take_zero, List.drop_succ_cons, List.drop_zero]
                    have hi24 : (i : Int) < 16 := by omega
                    have hj16 : (j : Int) < 16 := by omega
                    iterate 15 still_step
                    refine wpStill_nil ?_
                    change wpList _ _ _ _ _ wr.drew
                    go_wp2_with (fail)
                    go_at_call 24
                    refine (ST.out).mono ?_
                    rintro e w5 ⟨rfl, hno, ho⟩
                    have J1 : Hid (MkI w.heap.size w Y C w.heap.size w2.heap.size k S (stC C C.pm C.nm i (j + 1)) w5) := by
                      have hX : ∀ x, (x = S.n.k) → S.n.has x := by
                        rintro x rfl
                        exact NA.hk _
                      have hs := (I.out.same 1 rfl).sto.setNo ho hX hno
                      rw [← stC_set C C.pm C.nm i j hlv hjl]
                      exact (I.out.same 1 rfl).step ho (fun x hx => .inr (.inl (hX x hx))) hs
                    clear hno ho
                    go_wp2
                    go_roundw
                    case rel => exact ⟨j + 1, by omega, .inr hlv, by go_num, J1⟩
                    case measure => simp [intOf]; omega
                  · have e1 : pre C.nm i = false := by simp [pre]; omega
                    rw [e1] at a0
                    have I2 : Hid (MkI w.heap.size w Y C w.heap.size w2.heap.size k S (stC C C.pm C.nm (i + 1) 0) wr) := by
                      have := I.out
                      rwa [stC_row C C.pm C.nm i j (.inr (by omega))] at this
                    clear e1 hn24 nmn I
                    go_wp2
                    go_roundw
                    case rel => exact ⟨i + 1, by omega, by go_num, I2⟩
                    case measure => simp [intOf]; omega
                · have I2 : Hid (MkI w.heap.size w Y C w.heap.size w2.heap.size k S (stC C C.pm C.nm (i + 1) 0) wr) := by
                    have := I.out
                    rwa [stC_row C C.pm C.nm i j (.inl (by omega))] at this
                  clear hn24 nmn I
                  go_wp2
                  go_roundw
                  case rel => exact ⟨i + 1, by omega, by go_num, I2⟩
                  case measure => simp [intOf]; omega
            · have I2 : Hid (MkI w.heap.size w Y C w.heap.size w2.heap.size k S (copyC C) wr) := by
                have := I.out
                rwa [stC_end C i (by omega)] at this
              obtain ⟨d0, d1, d2, d3, d4⟩ := K.facts I2.out.rk
              obtain ⟨z0, z1, z2, z3, z4⟩ := K.facts I2.out.rz
              have f0 := I2.out.rz.frozen 0
              have f1 := I2.out.rz.frozen 1
              have f2 := I2.out.rz.frozen 2
              have f3 := I2.out.rz.frozen 3
              have f4 := I2.out.rz.frozen 4
              have L2 := I2.out.rk.lt
              clear hn24 nmn I
              go_wp2
              go_region
              go_wp2
              refine bodyPost_ret (v := .tuple #[.pointer (some ⟨S.s, 0, none⟩), k.v]) (by simp [results, Tryd.results46, go_sem, z0, z1, z2, z3, z4]) rfl ⟨S, rfl, ?_, ?_, ?_⟩
              · exact (I2.out.sto.only (key_only' (X := fun x => x = w.heap.size) (Only.refl _ _) (.inl rfl) _ _ _ _ _) (fun x hx e => I2.out.dz (e ▸ hx))).same rfl
              · exact I2.out.dB
              · exact (key_below I2.out.bel _ _ _ _ _).drew

end Go.Proofs.YtdlemkmkheokkaaDoor
