/- The contract of turnkeylaw11.made, over whatever Tree hands back that makes no node. -/
import Derived.Test.YtdlemkmkheokkaaDoorXh
import Derived.Test.YtdlemkmkheokkaaDoorNb
namespace Go.Proofs.YtdlemkmkheokkaaDoor
open Go.RowKit

section
variable {w0 : World} {S : SA} {cb mb : Nat} {D : SC} {size hits n : Int} {cs : List CW} {X : Nat → Prop} {W W' : World}
/-- a box that was there ahead of the cache is written -/
theorem Lk.low (h : Lk w0 S cb D size hits cs X W) {g : Nat} (o : Only (fun x => x = g) W W') (h1 : g < cb) (h2 : ¬ S.has g) (h0 : w0.heap.size ≤ g) : Lk w0 S cb D size hits cs X W' := by
  obtain ⟨lo, l, ws, hc, r⟩ := h.ca
  exact ⟨h.sto.only o (fun x hS e => h2 (e ▸ hS)), h.hS, below_only h.bel h.bel.size o (fun i _ e => by omega), h.dB, h.cB, fun x hx => ⟨Nat.lt_of_lt_of_le (h.hX x hx).1 o.size, (h.hX x hx).2⟩, ⟨lo, l, ws, hc.only o (fun x e => by omega), r⟩, h.s1, h.s64, h.len⟩
end

/-- what made keeps while it copies -/
structure MkM (w0 : World) (Y : YA) (C : YC) (bz bk : Nat) (k : K) (S : SA) (cb mb : Nat) (D : SC) (W : World) : Prop where
  me : Me0 w0 S cb mb D 4 0 (fun x => x = mb) W
  sy : Sy W Y C
  rz : Row W bz 5 K.zero.cell
  rk : Row W bk 5 k.cell
  dY : ∀ x, Y.has x → ¬ S.has x
  dz : ¬ S.has bz
  dk : ¬ S.has bk
  zc : bz < cb
  zm : bz < mb
theorem MkM.sto {w0 : World} {Y : YA} {C : YC} {bz bk : Nat} {k : K} {S : SA} {cb mb : Nat} {D : SC} {W : World} (h : MkM w0 Y C bz bk k S cb mb D W) : Sto W S D := h.me.mm.sto
theorem MkM.same {w0 : World} {Y : YA} {C : YC} {bz bk : Nat} {k : K} {S : SA} {cb mb : Nat} {D : SC} {W : World} (h : MkM w0 Y C bz bk k S cb mb D W) : MkM w0 Y C bz bk k S cb mb D W.drew :=
  ⟨h.me.below (Below.refl _ _).drew, h.sy.same rfl, h.rz.of_block rfl, h.rk.of_block rfl, h.dY, h.dz, h.dk, h.zc, h.zm⟩
theorem MkM.page {w0 : World} {Y : YA} {C : YC} {bz bk : Nat} {k : K} {S : SA} {cb mb : Nat} {D : SC} {W W' : World} {c : AC} {pw : Nat → Nat → Int} (h : MkM w0 Y C bz bk k S cb mb D W) (hpg : Pg W' S.p D.pc c pw) (ho : Only (fun x => x = S.p.l ∨ x = S.p.k) W W') :
    MkM w0 Y C bz bk k S cb mb { D with pa := c, pw := pw } W' := by
  have hX : ∀ x, (x = S.p.l ∨ x = S.p.k) → S.has x := fun x e => .inr (.inr (nhas_lk _ x e))
  exact ⟨(h.me.page hpg ho).1, h.sy.only ho (fun x hx e => h.dY x hx (hX x e)), h.rz.only ho (fun e => h.dz (hX _ e)), h.rk.only ho (fun e => h.dk (hX _ e)), h.dY, h.dz, h.dk, h.zc, h.zm⟩

def Made11 (w : World) (C : YC) (k : K) (e : Ending) (w' : World) : Prop :=
  ∃ (S : SA) (cb mb yb : Nat), e = .returned (.tuple #[.pointer (some ⟨mb, 0, none⟩), .pointer (some ⟨yb, 0, none⟩), k.v]) ∧ Me0 w S cb mb (copyC C) 4 0 (fun x => x = mb) w'

set_option maxRecDepth 100000 in
set_option maxHeartbeats 4000000 in
theorem made11 (h : Int) (A : Option Addr) (n cap : Nat) (C : YC) (k : K) (w : World) (hCn : C.n = 16) (hCp : C.p = 16) (hnm : C.nm = 0)
    (hT : ∀ W Y, Below w.heap.size w W → (∀ x, Y.has x → w.heap.size ≤ x) → Sy W Y (YC.new 16 16) → Calls Tryd.prog 74 #[.pointer (some ⟨Y.b, 0, none⟩), .int .i64 h, .slice A n cap] W (TreeP W Y C k)) :
    Calls Tryd.prog 63 #[.int .i64 h, .slice A n cap] w (Made11 w C k) := by
  have SM := Lib.hid (show ∀ W, Calls Tryd.prog 73 #[.int .i64 16, .int .i64 16] W (NewSy W 16 16) from fun W => small_any 16 16 W (by omega) (by omega) (by omega) (by omega))
  have SN := Lib.hid (show ∀ W, Calls Tryd.prog 28 #[.int .i64 16, .int .i64 16, .int .i64 4] W (NewMe W 16 16 4) from fun W => mem_new 16 16 4 W (by omega) (by omega) (by omega) (by omega) (by omega) (by omega))
  have HT := Lib.hid hT
  have HNM := Lib.hid hnm
  have HN := Lib.hid hCn
  have HP := Lib.hid hCp
  clear hT hnm hCn hCp
  go_enter Tryd.func63, Tryd.ntmps63
  go_wp2_with (fail)
  go_at_call 73
  refine (SM.out _).mono ?_
  rintro e w1 ⟨Y, rfl, hy, hx, hb⟩
  have hb1 : Below w.heap.size w w1 := ((Below.refl _ w).alloc (Nat.le_refl _) _).trans (hb.mono (by simp))
  have TR := Lib.hid (HT.out w1 Y hb1 (fun x h => by have := hx x h; simp at this; omega) hy)
  have HB1 := Lib.hid hb1
  have HX := Lib.hid (show ∀ x, Y.has x → w.heap.size + 1 ≤ x from fun x h => by have := hx x h; simpa using this)
  have BX := Lib.hid ((K.zero.box w 36).below hb)
  clear hy hx hb hb1 HT
  go_wp2_with (fail)
  go_at_call 74
  refine (TR.out).mono ?_
  rintro e w2 ⟨rfl, hy, ho⟩
  have HY := Lib.hid hy
  have hXlt : ∀ x, Y.X x → w.heap.size + 1 ≤ x := by
    intro x h
    exact HX.out x (by rcases h with rfl | rfl | rfl | rfl; exact .inr (.inr (.inl rfl)); exact .inr (.inr (.inr (.inr rfl))); exact .inr (.inl rfl); exact .inr (.inr (.inr (.inl rfl))))
  have HB2 := Lib.hid (below_only HB1.out HB1.out.size ho (fun i _ h => by have := hXlt i h; omega))
  have BX2 := Lib.hid (BX.out.only ho (fun h => by have := hXlt _ h; omega))
  have S2 := HB2.out.size
  clear hy ho hXlt TR BX HB1
  go_wp2_with (fail)
  go_at_call 28
  refine (SN.out _).mono ?_
  rintro e w3 ⟨S, cb, mb, rfl, hmb, hm⟩
  have I0 : Hid (MkM w Y C w.heap.size w2.heap.size k S cb mb (stC C 0 0 0 0) w3) := by
    have hb2 : Below w2.heap.size w2 (w2.alloc (.cells #[.int .i64 k.kind, .int .i64 k.id, .int .i64 k.ver, .int .i64 k.rights, .int .u32 k.data] 36)) := (Below.refl _ w2).alloc (Nat.le_refl _) _
    obtain ⟨hits, a1, a2, hl⟩ := hm.ex
    have hb := hl.bel
    have hb3 : Below w2.heap.size w2 w3 := hb2.trans (hb.mono (by simp))
    have hx' : ∀ x, S.has x → w2.heap.size + 1 ≤ x := fun x h => by have := hl.dB x h; simpa using this
    have hc' : w2.heap.size + 1 ≤ cb := by have := hl.cB; simpa using this
    have hm' : w2.heap.size + 1 ≤ mb := by simpa using hmb
    have z2 := BX2.out.lt
    have m0 := hm.rebase (HB2.out.trans (hb2.mono S2))
    refine ⟨?_, HY.out.below hb3, BX2.out.below hb3, (k.box w2 36).below hb, ?_, ?_, ?_, by omega, by omega⟩
    · rw [stC_start, HN.out, HP.out]; exact m0
    · intro x h1 h2
      have := hx' x h2
      have := HY.out.lt x h1
      omega
    · intro h2; have := hx' _ h2; omega
    · intro h2; have := hx' _ h2; omega
  clear hm hmb
  have lS : w2.heap.size < w3.heap.size := I0.out.rk.lt
  go_wp2
  go_loopw [11] (fun t wr => ∃ i : Nat, i ≤ 16 ∧ t = .int .i64 i ∧ Hid (MkM w Y C w.heap.size w2.heap.size k S cb mb (stC C (min i C.pm) 0 0 0) wr)) (fun t _ => 16 - (intOf t).toNat)
  case atStart => exact ⟨0, by omega, rfl, by rw [Nat.zero_min]; exact I0⟩
  case round =>
    clear I0
    obtain ⟨i, hi, rfl, I⟩ := hrel
    obtain ⟨cp, c1⟩ := I.out.sy.c1
    rw [HP.out] at c1
    have pmp := I.out.sy.pmp
    have hp24 := HP.out
    by_cases hlt : i < 16
    · have a0 := I.out.sy.pr.cell (i * 4) (by omega)
      rw [slotC_live] at a0
      by_cases hlv : i < C.pm
      · have e1 : pre C.pm i = true := by simp [pre, hlv]
        rw [e1] at a0
        have q0 := I.out.me.mm.q0
        have q1 := I.out.sto.p1
        have c7 := I.out.sy.c7
        rw [HP.out] at c7
        have hmin : min i C.pm = i := Nat.min_eq_left (by omega)
        have J : Hid (MkM w Y C w.heap.size w2.heap.size k S cb mb (stC C i 0 0 0) wr) := by have := I.out; rwa [hmin] at this
        have PM := Lib.hid (pmake S.p C.p (acPre i) (stC C i 0 0 0).pw i 32 32 ⟨Y.pb, i * 32, none⟩ (C.pw i) wr.drew (J.out.sto.pg.same rfl) (by omega) (by omega) (fun j hj => acPre_th i j hj) (acPre_not i i (Nat.le_refl _)) rfl (by omega)
          (fun e => J.out.dY Y.pb (.inr (.inr (.inr (.inr rfl)))) (by rw [show Y.pb = S.p.l from e]; exact .inr (.inr (NA.hl _)))) (J.out.sy.lt Y.pb (.inr (.inr (.inr (.inr rfl)))))
          (fun j hj => by
            rw [Addr.add_mid]
            have := J.out.sy.wr.cell (i * 32 + j) (by omega)
            rw [wordCell_at _ _ _ hj] at this
            exact this))
        clear e1 hmin I pmp hp24
        go_wp2
        refine wp_region_still_tail 14 (by kernel_rfl) (by kernel_rfl) ?_
        simp only [List.take_succ_cons, List.take_zero, List.drop_succ_cons, List.drop_zero]
        iterate 14 still_step
        refine wpStill_nil ?_
        change wpList _ _ _ _ _ wr.drew
        go_wp2_with (fail)
        go_at_call 19
        refine (PM.out).mono ?_
        rintro e w5 ⟨rfl, hpg, ho⟩
        have J1 : Hid (MkM w Y C w.heap.size w2.heap.size k S cb mb (stC C (i + 1) 0 0 0) w5) := by
          rw [← stC_page]
          exact J.out.same.page hpg ho
        clear hpg ho
        go_wp2
        go_roundw
        case rel => exact ⟨i + 1, by omega, by go_num, by rw [show min (i + 1) C.pm = i + 1 from Nat.min_eq_left (by omega)]; exact J1⟩
        case measure => simp [intOf]; omega
      · have e1 : pre C.pm i = false := by simp [pre]; omega
        rw [e1] at a0
        have hmin : min i C.pm = C.pm := Nat.min_eq_right (by omega)
        rw [hmin] at I
        clear e1 hmin hp24
        go_wp2
        go_roundw
        case rel => exact ⟨i + 1, by omega, by go_num, by rw [show min (i + 1) C.pm = C.pm from Nat.min_eq_right (by omega)]; exact I⟩
        case measure => simp [intOf]; omega
    · have hmin : min i C.pm = C.pm := Nat.min_eq_right (by omega)
      rw [hmin] at I
      clear hmin hp24 pmp
      go_wp2
      clear c1
      obtain ⟨wa, rfl⟩ : ∃ wa : World, wa = wr := ⟨_, rfl⟩
      go_loopw [12] (fun t wr => ∃ i : Nat, i ≤ 16 ∧ t = .int .i64 i ∧ Hid (MkM w Y C w.heap.size w2.heap.size k S cb mb (stC C C.pm (min i C.nm) 0 0) wr)) (fun t _ => 16 - (intOf t).toNat)
      case atStart => exact ⟨0, by omega, rfl, by rw [Nat.zero_min]; exact I⟩
      case round =>
        clear I
        obtain ⟨i, hi, rfl, I⟩ := hrel
        obtain ⟨cn, c0⟩ := I.out.sy.c0
        rw [HN.out] at c0
        have nmn := I.out.sy.nmn
        have hn24 := HN.out
        by_cases hlt : i < 16
        · have a0 := I.out.sy.nr.cell (i * 4) (by omega)
          rw [slotC_live] at a0
          by_cases hlv : i < C.nm
          · exfalso; have := HNM.out; omega
          · have e1 : pre C.nm i = false := by simp [pre]; omega
            rw [e1] at a0
            have hmin : min i C.nm = C.nm := Nat.min_eq_right (by omega)
            rw [hmin] at I
            clear e1 hmin hn24
            go_wp2
            go_roundw
            case rel => exact ⟨i + 1, by omega, by go_num, by rw [show min (i + 1) C.nm = C.nm from Nat.min_eq_right (by omega)]; exact I⟩
            case measure => simp [intOf]; omega
        · have hmin : min i C.nm = C.nm := Nat.min_eq_right (by omega)
          rw [hmin] at I
          clear hmin hn24 nmn
          go_wp2
          clear c0
          obtain ⟨wb, rfl⟩ : ∃ wb : World, wb = wr := ⟨_, rfl⟩
          go_loopw [13, 14] (fun t _ wr => ∃ i : Nat, i ≤ 16 ∧ t = .int .i64 i ∧ Hid (MkM w Y C w.heap.size w2.heap.size k S cb mb (stC C C.pm C.nm i 0) wr)) (fun t _ _ => 16 - (intOf t).toNat)
          case atStart => exact ⟨0, by omega, rfl, I⟩
          case round =>
            clear I
            obtain ⟨i, hi, rfl, I⟩ := hrel
            obtain ⟨cn, c0⟩ := I.out.sy.c0
            rw [HN.out] at c0
            have nmn := I.out.sy.nmn
            have hn24 := HN.out
            by_cases hlt : i < 16
            · clear hn24
              have hb : decide ((i : Int) < 16) = true := by simp; omega
              go_wp2
              clear c0
              obtain ⟨wc, rfl⟩ : ∃ wc : World, wc = wr := ⟨_, rfl⟩
              go_loopw [14] (fun t wr => ∃ j : Nat, j ≤ 16 ∧ (j = 0 ∨ i < C.nm) ∧ t = .int .i64 j ∧ Hid (MkM w Y C w.heap.size w2.heap.size k S cb mb (stC C C.pm C.nm i j) wr)) (fun t _ => 16 - (intOf t).toNat)
              case atStart => exact ⟨0, by omega, .inl rfl, rfl, I⟩
              case round =>
                clear I
                obtain ⟨j, hj, hj0, rfl, I⟩ := hrel
                obtain ⟨cn, c0⟩ := I.out.sy.c0
                rw [HN.out] at c0
                have hn24 := HN.out
                have a0 := I.out.sy.nr.cell (i * 4) (by omega)
                rw [slotC_live] at a0
                by_cases hjl : j < 16
                · by_cases hlv : i < C.nm
                  · exfalso; have := HNM.out; omega
                  · have e1 : pre C.nm i = false := by simp [pre]; omega
                    rw [e1] at a0
                    have I2 : Hid (MkM w Y C w.heap.size w2.heap.size k S cb mb (stC C C.pm C.nm (i + 1) 0) wr) := by
                      have := I.out
                      rwa [stC_row C C.pm C.nm i j (.inr (by omega))] at this
                    clear e1 hn24 nmn I
                    go_wp2
                    go_roundw
                    case rel => exact ⟨i + 1, by omega, by go_num, I2⟩
                    case measure => simp [intOf]; omega
                · have I2 : Hid (MkM w Y C w.heap.size w2.heap.size k S cb mb (stC C C.pm C.nm (i + 1) 0) wr) := by
                    have := I.out
                    rwa [stC_row C C.pm C.nm i j (.inl (by omega))] at this
                  clear hn24 nmn I
                  go_wp2
                  go_roundw
                  case rel => exact ⟨i + 1, by omega, by go_num, I2⟩
                  case measure => simp [intOf]; omega
            · have I2 : Hid (MkM w Y C w.heap.size w2.heap.size k S cb mb (copyC C) wr) := by
                have := I.out
                rwa [stC_end C i (by omega)] at this
              obtain ⟨d0, d1, d2, d3, d4⟩ := K.facts I2.out.rk
              obtain ⟨z0, z1, z2, z3, z4⟩ := K.facts I2.out.rz
              have f0 := I2.out.rz.frozen 0
              have f1 := I2.out.rz.frozen 1
              have f2 := I2.out.rz.frozen 2
              have f3 := I2.out.rz.frozen 3
              have f4 := I2.out.rz.frozen 4
              have L2 := I2.out.rk.lt
              clear hn24 nmn I
              go_wp2
              go_region
              go_wp2
              refine bodyPost_ret (v := .tuple #[.pointer (some ⟨mb, 0, none⟩), .pointer (some ⟨Y.b, 0, none⟩), k.v]) (by simp [results, Tryd.results63, go_sem, z0, z1, z2, z3, z4]) rfl ⟨S, cb, mb, Y.b, rfl, ?_⟩
              obtain ⟨hits, a1, a2, hl⟩ := I2.out.me.ex
              have o := key_only' (X := fun x => x = w.heap.size) (b := w.heap.size) (Only.refl _ wr) (.inl rfl) (.int .i64 k.kind) (.int .i64 k.id) (.int .i64 k.ver) (.int .i64 k.rights) (.int .u32 k.data)
              have nz := I2.out.zm
              exact (⟨⟨hits, a1, a2, hl.low o I2.out.zc I2.out.dz (Nat.le_refl _)⟩, rfl, I2.out.me.rm.only o (by omega)⟩ : Me0 w S cb mb (copyC C) 4 0 (fun x => x = mb) _).below (Below.refl _ _).drew

end Go.Proofs.YtdlemkmkheokkaaDoor
