/- turnkeylaw9.PathFaults answers true for every input: the walk. -/
import Derived.Test.YtdlemkmkheokkaaDoorMg
import Derived.Deep.DeepCutAuto
import Derived.Deep.CutBlock
namespace Go.Proofs.YtdlemkmkheokkaaDoor
open Go.RowKit

/-- what is amiss with a key in a slot of a node that is one high -/
def Amiss (D : SC) (x : K) (want : Int) : Prop :=
  ((memB x && liveS D x) = false ∧ want = 2) ∨ ((memB x && liveS D x) = true ∧ 1 ≤ heightF x ∧ want = 5)
abbrev pk0 : Nat → K := fun _ => ⟨3, 0, 0, 0, 0⟩
theorem amiss_set {D : SC} {x : K} {want : Int} (h : Amiss D x want) (nk : Nat → Nat → K) : Amiss { D with nk := nk } x want := h
theorem faults_node (D : SC) (F : Fl 3 3 (acPre 1) pk0 16 D) (nk : Nat → Nat → K) : (memB ⟨2, 0, 0, 0, 1⟩ && liveS { D with nk := nk } ⟨2, 0, 0, 0, 1⟩) = true := by
  simp [memB, liveS, liveB, thereB, F.nc, F.na, acPre, pre]
theorem faults_way (D : SC) (F : Fl 3 3 (acPre 1) pk0 16 D) (t u : Nat) (ht : t < 16) (hu : u < 16) (x : K) (want : Int) (h : Amiss D x want) :
    (u = t → (wayF { D with nk := up2 D.nk 0 t x } ⟨2, 0, 0, 0, 1⟩ (32 * u + 7)).same ⟨0, 0, false, want, []⟩) ∧
    (u ≠ t → (wayF { D with nk := up2 D.nk 0 t x } ⟨2, 0, 0, 0, 1⟩ (32 * u + 7)).same ⟨0, 7, false, 0, []⟩) := by
  have e1 : (32 * (u : Int) + 7) / sizeF (1 - 1) = u := by show (32 * (u : Int) + 7) / 32 = u; omega
  have e2 : (32 * (u : Int) + 7) % sizeF (1 - 1) = 7 := by show (32 * (u : Int) + 7) % 32 = 7; omega
  have ml := faults_node D F (up2 D.nk 0 t x)
  have es : sizeF 1 = 512 := by decide
  unfold wayF
  rw [walkF_node ml (by simp [heightF]) (by simp [heightF, es]; omega) (by simp)]
  refine ⟨fun e => ?_, fun e => ?_⟩
  · have ek : ({ D with nk := up2 D.nk 0 t x } : SC).nk (0 : Int).toNat ((32 * (u : Int) + 7) / sizeF (1 - 1)).toNat = x := by
      rw [e1]; subst e; exact up2_same _ _ _ _
    show WR.same ⟨(walkF _ 4 (({ D with nk := up2 D.nk 0 t x } : SC).nk (0 : Int).toNat ((32 * (u : Int) + 7) / sizeF (1 - 1)).toNat) _ _ 1).page, _, _, _, _⟩ _
    rw [ek]
    rcases h with ⟨h1, rfl⟩ | ⟨h1, h2, rfl⟩
    · rw [walkF_void (C := { D with nk := up2 D.nk 0 t x }) h1]; exact ⟨rfl, rfl, rfl, rfl⟩
    · rw [walkF_depth (C := { D with nk := up2 D.nk 0 t x }) h1 h2]; exact ⟨rfl, rfl, rfl, rfl⟩
  · have ek : ({ D with nk := up2 D.nk 0 t x } : SC).nk (0 : Int).toNat ((32 * (u : Int) + 7) / sizeF (1 - 1)).toNat = ⟨3, 0, 0, 0, 0⟩ := by
      rw [e1]
      show up2 D.nk 0 t x 0 u = _
      rw [up2_other _ _ _ _ _ _ (by omega)]
      exact F.ks u hu
    show WR.same ⟨(walkF _ 4 (({ D with nk := up2 D.nk 0 t x } : SC).nk (0 : Int).toNat ((32 * (u : Int) + 7) / sizeF (1 - 1)).toNat) _ _ 1).page, _, _, _, _⟩ _
    have mp : (memB ⟨3, 0, 0, 0, 0⟩ && liveS { D with nk := up2 D.nk 0 t x } ⟨3, 0, 0, 0, 0⟩) = true := by
      simp [memB, liveS, liveB, thereB, F.pc, F.pa, acPre, pre]
    rw [ek, e2, walkF_page mp (by simp [heightF]) (by simp [heightF]; decide) rfl]
    exact ⟨rfl, rfl, rfl, rfl⟩

theorem LwI.ver {w0 : World} {S : SA} {D : SC} {bk : Nat} {k : K} {w : World} (h : LwI w0 S D bk k w) (r : Int) : LwI w0 S D bk { k with ver := r } (w.setCell ⟨bk, 2, none⟩ (.int .i64 r)) := by
  have o : Only (fun x => x = bk) w (w.setCell ⟨bk, 2, none⟩ (.int .i64 r)) := (Only.refl _ _).setCell ⟨bk, 2, none⟩ _ (.inl rfl)
  refine ⟨h.sto.only o (fun x hx e => h.dk (e ▸ hx)), (h.rk.set 2 _).congr fun i hi => ?_, below_only h.bel h.bel.size o (fun i _ e => by have := h.bB; omega), h.dk, h.dB, h.bB⟩
  rcases (by omega : i = 0 ∨ i = 1 ∨ i = 2 ∨ i = 3 ∨ i = 4) with rfl | rfl | rfl | rfl | rfl <;> rfl

set_option maxRecDepth 100000 in
set_option maxHeartbeats 4000000 in
theorem pathFaults_walk (what slot ask : Int) (w : World) : Calls Tryd.prog 5 #[.int .i64 what, .int .i64 slot, .int .i64 ask] w (TrueBelow w) := by
  obtain ⟨t, ht, ht3⟩ : ∃ t : Nat, numB slot 16 = (t : Int) ∧ t < 16 := ⟨(numB slot 16).toNat, by have := numB_range slot 16 (by omega); omega, by have := numB_range slot 16 (by omega); omega⟩
  obtain ⟨u, hu, hu3⟩ : ∃ u : Nat, numB ask 16 = (u : Int) ∧ u < 16 := ⟨(numB ask 16).toNat, by have := numB_range ask 16 (by omega); omega, by have := numB_range ask 16 (by omega); omega⟩
  obtain ⟨r, hr, hr0, hr6⟩ : ∃ r : Int, numB what 6 = r ∧ 0 ≤ r ∧ r < 6 := ⟨_, rfl, (numB_range what 6 (by omega)).1, (numB_range what 6 (by omega)).2⟩
  have N1 := Lib.hid (fun W => ht ▸ number_any slot 16 W (by omega) (by omega))
  have N2 := Lib.hid (fun W => hu ▸ number_any ask 16 W (by omega) (by omega))
  have N3 := Lib.hid (fun W => hr ▸ number_any what 6 W (by omega) (by omega))
  have F9 := Lib.hid (fun W => first9 W)
  have SN := Lib.hid (show ∀ W, Calls Tryd.prog 18 #[.int .i64 3, .int .i64 3] W (NewSto W 3 3) from fun W => store_new 3 3 W (by omega) (by omega) (by omega) (by omega))
  clear ht hu hr
  go_enter Tryd.func5, Tryd.ntmps5
  go_wp2_with (fail)
  go_at_call 17
  refine (F9.out _).mono ?_
  rintro e w1 ⟨rfl, hb1⟩
  have HB1 := Lib.hid hb1
  clear hb1
  go_wp2_with (fail)
  go_at_call 18
  refine (SN.out _).mono ?_
  rintro e w2 ⟨S, rfl, hs, hx, hb2⟩
  have I2 := Lib.hid (show LwS w S (SC.new 3 3) w2 from ⟨hs, HB1.out.trans (hb2.mono HB1.out.size), fun x h => Nat.le_trans HB1.out.size (hx x h)⟩)
  have q1 := hs.p1
  have lq := hs.lt S.s (.inl rfl)
  clear hs hx hb2 HB1
  go_wp2_with (fail)
  go_at_call 26
  refine (N1.out _).mono ?_
  rintro e w' ⟨rfl, rfl⟩
  go_wp2_with (fail)
  go_at_call 26
  refine (N2.out _).mono ?_
  rintro e w' ⟨rfl, rfl⟩
  go_wp2_with (fail)
  go_at_call 19
  have I2a := Lib.hid (I2.out.alloc (.cells #[.int .u32 5] 34))
  have hro := Row.one w2 (.int .u32 5) 34
  have hne : (⟨w2.heap.size, 0, none⟩ : Addr).block ≠ S.p.l := by
    have := I2.out.sto.lt S.p.l (.inr (.inr (NA.hl _)))
    show w2.heap.size ≠ S.p.l
    omega
  refine (pmake S.p 3 AC.zero (SC.new 3 3).pw 0 1 1 ⟨w2.heap.size, 0, none⟩ (fun _ => 5) _ I2a.out.sto.pg (by omega) (by omega) (fun j h => absurd h (Nat.not_lt_zero j)) rfl rfl (by omega) hne hro.lt (row_cell1 hro)).mono ?_
  rintro e w3 ⟨rfl, hpg, ho⟩
  have I3 := Lib.hid (I2a.out.page hpg ho)
  have q0 := I3.out.sto.p0
  have lz := I3.out.sto.lt S.s (.inl rfl)
  clear hro hne hpg ho I2 I2a q1 lq
  go_wp2_with (fail)
  go_at_call 21
  refine (nmake0 S.n 3 AC.zero (SC.new 3 3).nk 0 _ I3.out.sto.no (by omega) (by omega) (fun j h => absurd h (Nat.not_lt_zero j)) rfl rfl).mono ?_
  rintro e w4 ⟨rfl, hno, ho⟩
  have I4 := I3.out.make hno ho
  obtain ⟨D4, hD4⟩ : ∃ D : SC, D = { SC.new 3 3 with pa := AC.zero.take 0, pw := up (SC.new 3 3).pw 0 (pageWords 1 fun _ => 5), na := AC.zero.take 0, nk := up (SC.new 3 3).nk 0 (nodeKeys 0 K.zero) } := ⟨_, rfl⟩
  have I5 := Lib.hid (show LwS w S D4 w4 from hD4 ▸ I4)
  have L4 := Lib.hid (show Fl 3 3 (acPre 1) pk0 0 D4 by subst hD4; exact ⟨rfl, rfl, take_pre0, take_pre0, fun s h => absurd h (Nat.not_lt_zero s)⟩)
  clear hno ho hD4 I3 I4 q0 lz
  go_wp2
  go_loopw [10] (fun i wr => ∃ (n : Nat) (D : SC), n ≤ 16 ∧ i = .int .i64 n ∧ Hid (LwS w S D wr) ∧ Hid (Fl 3 3 (acPre 1) pk0 n D)) (fun i _ => 16 - (intOf i).toNat)
  case atStart => exact ⟨0, D4, by omega, rfl, I5, L4⟩
  case round =>
    clear I5 L4
    obtain ⟨n, D, hn, rfl, I, L⟩ := hrel
    by_cases hn16 : n < 16
    · have hb : decide ((n : Int) < 16) = true := by simp; omega
      have z0 := I.out.sto.p0
      have lz := I.out.sto.lt S.s (.inl rfl)
      have NK := Lib.hid (show Calls Tryd.prog 20 #[.pointer (some ⟨S.s, 0, none⟩), .int .i64 0] wr.drew (KeyBelow wr.drew ⟨3, 0, 0, 0, 0⟩) by
        have := page_key S D 0 wr.drew I.out.drew.sto (by rw [L.out.pc]; omega) (by rw [L.out.pa]; exact acPre_th 1 0 (by omega))
        rw [L.out.pa] at this
        exact this)
      go_wp2_with (fail)
      go_region_held3 (fun W => W.cell? ⟨S.s, 0, none⟩ = some (.pointer (some ⟨S.n.b, 0, none⟩)))
        (first | exact z0 | go_keep)
        ((first | (go_at_call 20; refine NK.out.mono ?_; rintro e w5 ⟨rfl, hb5⟩; have J5 := Lib.hid (I.out.drew.below hb5); have z0 := J5.out.sto.p0; clear hb5) | (go_at_call 24; refine (set_yes S.n D.nc D.na D.nk 0 n ⟨3, 0, 0, 0, 0⟩ _ J5.out.sto.no (by rw [L.out.nc]; omega) (by rw [L.out.nc]; omega) (by rw [L.out.na]; exact acPre_th 1 0 (by omega)) hn16 (ok_page 0 (by omega) (by omega))).mono ?_; rintro e w6 ⟨rfl, hno, ho⟩; have J6 := Lib.hid (J5.out.set hno ho); have z0 := J6.out.sto.p0; clear hno ho)))
      go_wp2
      go_roundw
      case rel => exact ⟨n + 1, _, by omega, by go_num, J6, Lib.hid L.out.set⟩
      case measure => simp [intOf]; omega
    · obtain rfl : n = 16 := by omega
      have J := Lib.hid (I.out.toI K.zero)
      have lz := I.out.sto.lt S.s (.inl rfl)
      have PK := Lib.hid (fun W (hW : Sto W S D) => show Calls Tryd.prog 20 #[.pointer (some ⟨S.s, 0, none⟩), .int .i64 0] W (KeyBelow W ⟨3, 0, 0, 0, 0⟩) by
        have := page_key S D 0 W hW (by rw [L.out.pc]; omega) (by rw [L.out.pa]; exact acPre_th 1 0 (by omega))
        rw [L.out.pa] at this
        exact this)
      have NK := Lib.hid (fun W (hW : Sto W S D) (g : Int) (h0 : 0 ≤ g) (h4 : g ≤ 4) => show Calls Tryd.prog 22 #[.pointer (some ⟨S.s, 0, none⟩), .int .i64 0, .int .i64 g] W (KeyBelow W ⟨2, 0, 0, 0, g⟩) by
        have := node_key S D 0 g W hW (by rw [L.out.nc]; omega) (by rw [L.out.na]; exact acPre_th 1 0 (by omega)) h0 h4
        rw [L.out.na] at this
        exact this)
      go_wp2_with (fail)
      go_at_call 26
      refine (N3.out _).mono ?_
      rintro e w' ⟨rfl, rfl⟩
      obtain rfl | rfl | rfl | rfl | rfl | rfl : r = 0 ∨ r = 1 ∨ r = 2 ∨ r = 3 ∨ r = 4 ∨ r = 5 := by omega
      · clear J
        have J := Lib.hid (I.out.toI K.zero)
        have AM := Lib.hid (show Amiss D K.zero 2 from .inl ⟨by simp [memB, liveS, K.zero], rfl⟩)
        have hok : okK K.zero := .inl ⟨rfl, rfl, rfl, rfl, rfl⟩
        obtain ⟨xk, hxk⟩ : ∃ xk : K, xk = K.zero := ⟨_, rfl⟩
        go_wp2_with (fail)
        rw [← hxk] at AM hok
        obtain ⟨Wc, hWc, J1⟩ := J.out.name hxk
        refine at_world hWc ?_
        clear J hWc
        clear hxk PK NK N1 N2 N3 F9 SN
        have z0 := J1.out.sto.p0
        obtain ⟨z1, z2, z3, z4, z5⟩ := K.facts J1.out.rk
        have lw := J1.out.rk.lt
        have lz2 := J1.out.sto.lt S.s (.inl rfl)
        go_region_held3 (fun W => W.cell? ⟨S.s, 0, none⟩ = some (.pointer (some ⟨S.n.b, 0, none⟩)) ∧ W.cell? ⟨wr.heap.size, 0, none⟩ = some (.int .i64 xk.kind) ∧ W.cell? ⟨wr.heap.size, 1, none⟩ = some (.int .i64 xk.id) ∧ W.cell? ⟨wr.heap.size, 2, none⟩ = some (.int .i64 xk.ver) ∧ W.cell? ⟨wr.heap.size, 3, none⟩ = some (.int .i64 xk.rights) ∧ W.cell? ⟨wr.heap.size, 4, none⟩ = some (.int .u32 xk.data))
          (first | exact ⟨z0, z1, z2, z3, z4, z5⟩ | go_keep)
          ((go_at_call 24; refine (set_yes S.n D.nc D.na D.nk 0 t xk _ J1.out.drew.sto.no (by rw [L.out.nc]; omega) (by rw [L.out.nc]; omega) (by rw [L.out.na]; exact acPre_th 1 0 (by omega)) ht3 hok).mono ?_; rintro e w8 ⟨rfl, hno, ho⟩; have J8 := Lib.hid (J1.out.drew.set hno ho); have z0 := J8.out.sto.p0; obtain ⟨z1, z2, z3, z4, z5⟩ := K.facts J8.out.rk; clear hno ho))
        clear z0 z1 z2 z3 z4 z5 J1
        go_wp2_with (fail)
        have NK8 := Lib.hid (show Calls Tryd.prog 22 #[.pointer (some ⟨S.s, 0, none⟩), .int .i64 0, .int .i64 1] w8 (KeyBelow w8 ⟨2, 0, 0, 0, 1⟩) by
          have := node_key S { D with nk := up2 D.nk 0 t xk } 0 1 w8 J8.out.sto (by show 0 < D.nc; rw [L.out.nc]; omega) (by show D.na.th 0 = true; rw [L.out.na]; exact acPre_th 1 0 (by omega)) (by omega) (by omega)
          rw [show ({ D with nk := up2 D.nk 0 t xk } : SC).na.ve 0 = 0 by show D.na.ve 0 = 0; rw [L.out.na]; rfl] at this
          exact this)
        go_at_call 22
        refine NK8.out.mono ?_
        rintro e w9 ⟨rfl, hb9⟩
        have J9 := Lib.hid ((J8.out.below hb9).toS.toI ⟨2, 0, 0, 0, 1⟩)
        clear hb9 NK8 J8
        go_wp2_with (fail)
        obtain ⟨PW, hPW⟩ : ∃ PW, PW = wayF { D with nk := up2 D.nk 0 t xk } ⟨2, 0, 0, 0, 1⟩ (32 * u + 7) := ⟨_, rfl⟩
        obtain ⟨f1, f2⟩ := faults_way D L.out t u ht3 hu3 xk _ AM.out
        rw [← hPW] at f1 f2
        have WY := Lib.hid (fun W (hW : Sto W S { D with nk := up2 D.nk 0 t xk }) => show Calls Tryd.prog 23 #[.pointer (some ⟨S.s, 0, none⟩), (⟨2, 0, 0, 0, 1⟩ : K).v, .int .u32 (32 * u + 7)] W (WayP W PW) from hPW ▸ way_any S { D with nk := up2 D.nk 0 t xk } ⟨2, 0, 0, 0, 1⟩ (32 * u + 7) W hW (by omega) (by omega))
        clear hPW
        go_at_call 23
        refine (WY.out _ J9.out.sto).mono ?_
        rintro e w10 ⟨rfl, hb10⟩
        have B10 := Lib.hid (J9.out.below hb10).bel
        clear hb10 WY J9
        by_cases hut : u = t
        · obtain ⟨g1, g2, g3, g4⟩ := f1 hut
          dsimp only at g1 g2 g3 g4
          have hbe : ((u : Int) == (t : Int)) = true := by simp; omega
          rw [g1, g2, g3, g4]
          clear f1 f2 g1 g2 g3 g4
          go_wp2
          go_ret
          exact ⟨rfl, B10.out.alloc B10.out.size _⟩
        · obtain ⟨g1, g2, g3, g4⟩ := f2 hut
          dsimp only at g1 g2 g3 g4
          have hbe : ((u : Int) == (t : Int)) = false := by simp; omega
          rw [g1, g2, g3, g4]
          clear f1 f2 g1 g2 g3 g4
          go_wp2
          go_ret
          exact ⟨rfl, B10.out.alloc B10.out.size _⟩
      · clear J
        have J := Lib.hid (I.out.toI ⟨3, 2, 0, 0, 0⟩)
        have AM := Lib.hid (show Amiss D ⟨3, 2, 0, 0, 0⟩ 2 from .inl ⟨by simp [memB, liveS, liveB, thereB, L.out.pc, L.out.pa, acPre, pre], rfl⟩)
        have hok : okK ⟨3, 2, 0, 0, 0⟩ := ok_page 2 (by omega) (by omega)
        obtain ⟨xk, hxk⟩ : ∃ xk : K, xk = ⟨3, 2, 0, 0, 0⟩ := ⟨_, rfl⟩
        go_wp2_with (fail)
        rw [← hxk] at AM hok
        obtain ⟨Wc, hWc, J1⟩ := J.out.name hxk
        refine at_world hWc ?_
        clear J hWc
        clear hxk PK NK N1 N2 N3 F9 SN
        have z0 := J1.out.sto.p0
        obtain ⟨z1, z2, z3, z4, z5⟩ := K.facts J1.out.rk
        have lw := J1.out.rk.lt
        have lz2 := J1.out.sto.lt S.s (.inl rfl)
        go_region_held3 (fun W => W.cell? ⟨S.s, 0, none⟩ = some (.pointer (some ⟨S.n.b, 0, none⟩)) ∧ W.cell? ⟨wr.heap.size, 0, none⟩ = some (.int .i64 xk.kind) ∧ W.cell? ⟨wr.heap.size, 1, none⟩ = some (.int .i64 xk.id) ∧ W.cell? ⟨wr.heap.size, 2, none⟩ = some (.int .i64 xk.ver) ∧ W.cell? ⟨wr.heap.size, 3, none⟩ = some (.int .i64 xk.rights) ∧ W.cell? ⟨wr.heap.size, 4, none⟩ = some (.int .u32 xk.data))
          (first | exact ⟨z0, z1, z2, z3, z4, z5⟩ | go_keep)
          ((go_at_call 24; refine (set_yes S.n D.nc D.na D.nk 0 t xk _ J1.out.drew.sto.no (by rw [L.out.nc]; omega) (by rw [L.out.nc]; omega) (by rw [L.out.na]; exact acPre_th 1 0 (by omega)) ht3 hok).mono ?_; rintro e w8 ⟨rfl, hno, ho⟩; have J8 := Lib.hid (J1.out.drew.set hno ho); have z0 := J8.out.sto.p0; obtain ⟨z1, z2, z3, z4, z5⟩ := K.facts J8.out.rk; clear hno ho))
        clear z0 z1 z2 z3 z4 z5 J1
        go_wp2_with (fail)
        have NK8 := Lib.hid (show Calls Tryd.prog 22 #[.pointer (some ⟨S.s, 0, none⟩), .int .i64 0, .int .i64 1] w8 (KeyBelow w8 ⟨2, 0, 0, 0, 1⟩) by
          have := node_key S { D with nk := up2 D.nk 0 t xk } 0 1 w8 J8.out.sto (by show 0 < D.nc; rw [L.out.nc]; omega) (by show D.na.th 0 = true; rw [L.out.na]; exact acPre_th 1 0 (by omega)) (by omega) (by omega)
          rw [show ({ D with nk := up2 D.nk 0 t xk } : SC).na.ve 0 = 0 by show D.na.ve 0 = 0; rw [L.out.na]; rfl] at this
          exact this)
        go_at_call 22
        refine NK8.out.mono ?_
        rintro e w9 ⟨rfl, hb9⟩
        have J9 := Lib.hid ((J8.out.below hb9).toS.toI ⟨2, 0, 0, 0, 1⟩)
        clear hb9 NK8 J8
        go_wp2_with (fail)
        obtain ⟨PW, hPW⟩ : ∃ PW, PW = wayF { D with nk := up2 D.nk 0 t xk } ⟨2, 0, 0, 0, 1⟩ (32 * u + 7) := ⟨_, rfl⟩
        obtain ⟨f1, f2⟩ := faults_way D L.out t u ht3 hu3 xk _ AM.out
        rw [← hPW] at f1 f2
        have WY := Lib.hid (fun W (hW : Sto W S { D with nk := up2 D.nk 0 t xk }) => show Calls Tryd.prog 23 #[.pointer (some ⟨S.s, 0, none⟩), (⟨2, 0, 0, 0, 1⟩ : K).v, .int .u32 (32 * u + 7)] W (WayP W PW) from hPW ▸ way_any S { D with nk := up2 D.nk 0 t xk } ⟨2, 0, 0, 0, 1⟩ (32 * u + 7) W hW (by omega) (by omega))
        clear hPW
        go_at_call 23
        refine (WY.out _ J9.out.sto).mono ?_
        rintro e w10 ⟨rfl, hb10⟩
        have B10 := Lib.hid (J9.out.below hb10).bel
        clear hb10 WY J9
        by_cases hut : u = t
        · obtain ⟨g1, g2, g3, g4⟩ := f1 hut
          dsimp only at g1 g2 g3 g4
          have hbe : ((u : Int) == (t : Int)) = true := by simp; omega
          rw [g1, g2, g3, g4]
          clear f1 f2 g1 g2 g3 g4
          go_wp2
          go_ret
          exact ⟨rfl, B10.out.alloc B10.out.size _⟩
        · obtain ⟨g1, g2, g3, g4⟩ := f2 hut
          dsimp only at g1 g2 g3 g4
          have hbe : ((u : Int) == (t : Int)) = false := by simp; omega
          rw [g1, g2, g3, g4]
          clear f1 f2 g1 g2 g3 g4
          go_wp2
          go_ret
          exact ⟨rfl, B10.out.alloc B10.out.size _⟩
      · clear J
        have J := Lib.hid (I.out.toI ⟨1, 0, 0, 0, 9⟩)
        have AM := Lib.hid (show Amiss D ⟨1, 0, 0, 0, 9⟩ 2 from .inl ⟨by simp [memB, liveS], rfl⟩)
        have hok : okK ⟨1, 0, 0, 0, 9⟩ := .inr (.inl ⟨rfl, rfl, rfl, rfl, by simp, by simp⟩)
        obtain ⟨xk, hxk⟩ : ∃ xk : K, xk = ⟨1, 0, 0, 0, 9⟩ := ⟨_, rfl⟩
        go_wp2_with (fail)
        rw [← hxk] at AM hok
        obtain ⟨Wc, hWc, J1⟩ := J.out.name hxk
        refine at_world hWc ?_
        clear J hWc
        clear hxk PK NK N1 N2 N3 F9 SN
        have z0 := J1.out.sto.p0
        obtain ⟨z1, z2, z3, z4, z5⟩ := K.facts J1.out.rk
        have lw := J1.out.rk.lt
        have lz2 := J1.out.sto.lt S.s (.inl rfl)
        go_region_held3 (fun W => W.cell? ⟨S.s, 0, none⟩ = some (.pointer (some ⟨S.n.b, 0, none⟩)) ∧ W.cell? ⟨wr.heap.size, 0, none⟩ = some (.int .i64 xk.kind) ∧ W.cell? ⟨wr.heap.size, 1, none⟩ = some (.int .i64 xk.id) ∧ W.cell? ⟨wr.heap.size, 2, none⟩ = some (.int .i64 xk.ver) ∧ W.cell? ⟨wr.heap.size, 3, none⟩ = some (.int .i64 xk.rights) ∧ W.cell? ⟨wr.heap.size, 4, none⟩ = some (.int .u32 xk.data))
          (first | exact ⟨z0, z1, z2, z3, z4, z5⟩ | go_keep)
          ((go_at_call 24; refine (set_yes S.n D.nc D.na D.nk 0 t xk _ J1.out.drew.sto.no (by rw [L.out.nc]; omega) (by rw [L.out.nc]; omega) (by rw [L.out.na]; exact acPre_th 1 0 (by omega)) ht3 hok).mono ?_; rintro e w8 ⟨rfl, hno, ho⟩; have J8 := Lib.hid (J1.out.drew.set hno ho); have z0 := J8.out.sto.p0; obtain ⟨z1, z2, z3, z4, z5⟩ := K.facts J8.out.rk; clear hno ho))
        clear z0 z1 z2 z3 z4 z5 J1
        go_wp2_with (fail)
        have NK8 := Lib.hid (show Calls Tryd.prog 22 #[.pointer (some ⟨S.s, 0, none⟩), .int .i64 0, .int .i64 1] w8 (KeyBelow w8 ⟨2, 0, 0, 0, 1⟩) by
          have := node_key S { D with nk := up2 D.nk 0 t xk } 0 1 w8 J8.out.sto (by show 0 < D.nc; rw [L.out.nc]; omega) (by show D.na.th 0 = true; rw [L.out.na]; exact acPre_th 1 0 (by omega)) (by omega) (by omega)
          rw [show ({ D with nk := up2 D.nk 0 t xk } : SC).na.ve 0 = 0 by show D.na.ve 0 = 0; rw [L.out.na]; rfl] at this
          exact this)
        go_at_call 22
        refine NK8.out.mono ?_
        rintro e w9 ⟨rfl, hb9⟩
        have J9 := Lib.hid ((J8.out.below hb9).toS.toI ⟨2, 0, 0, 0, 1⟩)
        clear hb9 NK8 J8
        go_wp2_with (fail)
        obtain ⟨PW, hPW⟩ : ∃ PW, PW = wayF { D with nk := up2 D.nk 0 t xk } ⟨2, 0, 0, 0, 1⟩ (32 * u + 7) := ⟨_, rfl⟩
        obtain ⟨f1, f2⟩ := faults_way D L.out t u ht3 hu3 xk _ AM.out
        rw [← hPW] at f1 f2
        have WY := Lib.hid (fun W (hW : Sto W S { D with nk := up2 D.nk 0 t xk }) => show Calls Tryd.prog 23 #[.pointer (some ⟨S.s, 0, none⟩), (⟨2, 0, 0, 0, 1⟩ : K).v, .int .u32 (32 * u + 7)] W (WayP W PW) from hPW ▸ way_any S { D with nk := up2 D.nk 0 t xk } ⟨2, 0, 0, 0, 1⟩ (32 * u + 7) W hW (by omega) (by omega))
        clear hPW
        go_at_call 23
        refine (WY.out _ J9.out.sto).mono ?_
        rintro e w10 ⟨rfl, hb10⟩
        have B10 := Lib.hid (J9.out.below hb10).bel
        clear hb10 WY J9
        by_cases hut : u = t
        · obtain ⟨g1, g2, g3, g4⟩ := f1 hut
          dsimp only at g1 g2 g3 g4
          have hbe : ((u : Int) == (t : Int)) = true := by simp; omega
          rw [g1, g2, g3, g4]
          clear f1 f2 g1 g2 g3 g4
          go_wp2
          go_ret
          exact ⟨rfl, B10.out.alloc B10.out.size _⟩
        · obtain ⟨g1, g2, g3, g4⟩ := f2 hut
          dsimp only at g1 g2 g3 g4
          have hbe : ((u : Int) == (t : Int)) = false := by simp; omega
          rw [g1, g2, g3, g4]
          clear f1 f2 g1 g2 g3 g4
          go_wp2
          go_ret
          exact ⟨rfl, B10.out.alloc B10.out.size _⟩
      · go_wp2_with (fail)
        go_at_call 22
        refine (NK.out _ J.out.sto 1 (by omega) (by omega)).mono ?_
        rintro e w7 ⟨rfl, hb7⟩
        have J := Lib.hid (J.out.below hb7)
        obtain ⟨c0, c1, c2, c3, c4⟩ := K.facts J.out.rk
        have lk := J.out.rk.lt
        have f0 := J.out.rk.frozen 0
        have f1 := J.out.rk.frozen 1
        have f2 := J.out.rk.frozen 2
        have f3 := J.out.rk.frozen 3
        have f4 := J.out.rk.frozen 4
        clear hb7
        have J := Lib.hid (J.out.box ⟨2, 0, 0, 0, 1⟩)
        have AM := Lib.hid (show Amiss D ⟨2, 0, 0, 0, 1⟩ 5 from .inr ⟨by simp [memB, liveS, liveB, thereB, L.out.nc, L.out.na, acPre, pre], by simp [heightF], rfl⟩)
        have hok : okK ⟨2, 0, 0, 0, 1⟩ := ok_node 0 1 (by omega) (by omega) (by omega) (by omega)
        obtain ⟨xk, hxk⟩ : ∃ xk : K, xk = ⟨2, 0, 0, 0, 1⟩ := ⟨_, rfl⟩
        go_wp2_with (fail)
        rw [← hxk] at AM hok
        obtain ⟨Wc, hWc, J1⟩ := J.out.name hxk
        refine at_world hWc ?_
        clear J hWc
        clear hxk PK NK N1 N2 N3 F9 SN
        have z0 := J1.out.sto.p0
        obtain ⟨z1, z2, z3, z4, z5⟩ := K.facts J1.out.rk
        have lw := J1.out.rk.lt
        have lz2 := J1.out.sto.lt S.s (.inl rfl)
        go_region_held3 (fun W => W.cell? ⟨S.s, 0, none⟩ = some (.pointer (some ⟨S.n.b, 0, none⟩)) ∧ W.cell? ⟨wr.heap.size, 0, none⟩ = some (.int .i64 xk.kind) ∧ W.cell? ⟨wr.heap.size, 1, none⟩ = some (.int .i64 xk.id) ∧ W.cell? ⟨wr.heap.size, 2, none⟩ = some (.int .i64 xk.ver) ∧ W.cell? ⟨wr.heap.size, 3, none⟩ = some (.int .i64 xk.rights) ∧ W.cell? ⟨wr.heap.size, 4, none⟩ = some (.int .u32 xk.data))
          (first | exact ⟨z0, z1, z2, z3, z4, z5⟩ | go_keep)
          ((go_at_call 24; refine (set_yes S.n D.nc D.na D.nk 0 t xk _ J1.out.drew.sto.no (by rw [L.out.nc]; omega) (by rw [L.out.nc]; omega) (by rw [L.out.na]; exact acPre_th 1 0 (by omega)) ht3 hok).mono ?_; rintro e w8 ⟨rfl, hno, ho⟩; have J8 := Lib.hid (J1.out.drew.set hno ho); have z0 := J8.out.sto.p0; obtain ⟨z1, z2, z3, z4, z5⟩ := K.facts J8.out.rk; clear hno ho))
        clear z0 z1 z2 z3 z4 z5 J1
        go_wp2_with (fail)
        have NK8 := Lib.hid (show Calls Tryd.prog 22 #[.pointer (some ⟨S.s, 0, none⟩), .int .i64 0, .int .i64 1] w8 (KeyBelow w8 ⟨2, 0, 0, 0, 1⟩) by
          have := node_key S { D with nk := up2 D.nk 0 t xk } 0 1 w8 J8.out.sto (by show 0 < D.nc; rw [L.out.nc]; omega) (by show D.na.th 0 = true; rw [L.out.na]; exact acPre_th 1 0 (by omega)) (by omega) (by omega)
          rw [show ({ D with nk := up2 D.nk 0 t xk } : SC).na.ve 0 = 0 by show D.na.ve 0 = 0; rw [L.out.na]; rfl] at this
          exact this)
        go_at_call 22
        refine NK8.out.mono ?_
        rintro e w9 ⟨rfl, hb9⟩
        have J9 := Lib.hid ((J8.out.below hb9).toS.toI ⟨2, 0, 0, 0, 1⟩)
        clear hb9 NK8 J8
        go_wp2_with (fail)
        obtain ⟨PW, hPW⟩ : ∃ PW, PW = wayF { D with nk := up2 D.nk 0 t xk } ⟨2, 0, 0, 0, 1⟩ (32 * u + 7) := ⟨_, rfl⟩
        obtain ⟨f1, f2⟩ := faults_way D L.out t u ht3 hu3 xk _ AM.out
        rw [← hPW] at f1 f2
        have WY := Lib.hid (fun W (hW : Sto W S { D with nk := up2 D.nk 0 t xk }) => show Calls Tryd.prog 23 #[.pointer (some ⟨S.s, 0, none⟩), (⟨2, 0, 0, 0, 1⟩ : K).v, .int .u32 (32 * u + 7)] W (WayP W PW) from hPW ▸ way_any S { D with nk := up2 D.nk 0 t xk } ⟨2, 0, 0, 0, 1⟩ (32 * u + 7) W hW (by omega) (by omega))
        clear hPW
        go_at_call 23
        refine (WY.out _ J9.out.sto).mono ?_
        rintro e w10 ⟨rfl, hb10⟩
        have B10 := Lib.hid (J9.out.below hb10).bel
        clear hb10 WY J9
        by_cases hut : u = t
        · obtain ⟨g1, g2, g3, g4⟩ := f1 hut
          dsimp only at g1 g2 g3 g4
          have hbe : ((u : Int) == (t : Int)) = true := by simp; omega
          rw [g1, g2, g3, g4]
          clear f1 f2 g1 g2 g3 g4
          go_wp2
          go_ret
          exact ⟨rfl, B10.out.alloc B10.out.size _⟩
        · obtain ⟨g1, g2, g3, g4⟩ := f2 hut
          dsimp only at g1 g2 g3 g4
          have hbe : ((u : Int) == (t : Int)) = false := by simp; omega
          rw [g1, g2, g3, g4]
          clear f1 f2 g1 g2 g3 g4
          go_wp2
          go_ret
          exact ⟨rfl, B10.out.alloc B10.out.size _⟩
      · go_wp2_with (fail)
        go_at_call 22
        refine (NK.out _ J.out.sto 4 (by omega) (by omega)).mono ?_
        rintro e w7 ⟨rfl, hb7⟩
        have J := Lib.hid (J.out.below hb7)
        obtain ⟨c0, c1, c2, c3, c4⟩ := K.facts J.out.rk
        have lk := J.out.rk.lt
        have f0 := J.out.rk.frozen 0
        have f1 := J.out.rk.frozen 1
        have f2 := J.out.rk.frozen 2
        have f3 := J.out.rk.frozen 3
        have f4 := J.out.rk.frozen 4
        clear hb7
        have J := Lib.hid (J.out.box ⟨2, 0, 0, 0, 4⟩)
        have AM := Lib.hid (show Amiss D ⟨2, 0, 0, 0, 4⟩ 5 from .inr ⟨by simp [memB, liveS, liveB, thereB, L.out.nc, L.out.na, acPre, pre], by simp [heightF], rfl⟩)
        have hok : okK ⟨2, 0, 0, 0, 4⟩ := ok_node 0 4 (by omega) (by omega) (by omega) (by omega)
        obtain ⟨xk, hxk⟩ : ∃ xk : K, xk = ⟨2, 0, 0, 0, 4⟩ := ⟨_, rfl⟩
        go_wp2_with (fail)
        rw [← hxk] at AM hok
        obtain ⟨Wc, hWc, J1⟩ := J.out.name hxk
        refine at_world hWc ?_
        clear J hWc
        clear hxk PK NK N1 N2 N3 F9 SN
        have z0 := J1.out.sto.p0
        obtain ⟨z1, z2, z3, z4, z5⟩ := K.facts J1.out.rk
        have lw := J1.out.rk.lt
        have lz2 := J1.out.sto.lt S.s (.inl rfl)
        go_region_held3 (fun W => W.cell? ⟨S.s, 0, none⟩ = some (.pointer (some ⟨S.n.b, 0, none⟩)) ∧ W.cell? ⟨wr.heap.size, 0, none⟩ = some (.int .i64 xk.kind) ∧ W.cell? ⟨wr.heap.size, 1, none⟩ = some (.int .i64 xk.id) ∧ W.cell? ⟨wr.heap.size, 2, none⟩ = some (.int .i64 xk.ver) ∧ W.cell? ⟨wr.heap.size, 3, none⟩ = some (.int .i64 xk.rights) ∧ W.cell? ⟨wr.heap.size, 4, none⟩ = some (.int .u32 xk.data))
          (first | exact ⟨z0, z1, z2, z3, z4, z5⟩ | go_keep)
          ((go_at_call 24; refine (set_yes S.n D.nc D.na D.nk 0 t xk _ J1.out.drew.sto.no (by rw [L.out.nc]; omega) (by rw [L.out.nc]; omega) (by rw [L.out.na]; exact acPre_th 1 0 (by omega)) ht3 hok).mono ?_; rintro e w8 ⟨rfl, hno, ho⟩; have J8 := Lib.hid (J1.out.drew.set hno ho); have z0 := J8.out.sto.p0; obtain ⟨z1, z2, z3, z4, z5⟩ := K.facts J8.out.rk; clear hno ho))
        clear z0 z1 z2 z3 z4 z5 J1
        go_wp2_with (fail)
        have NK8 := Lib.hid (show Calls Tryd.prog 22 #[.pointer (some ⟨S.s, 0, none⟩), .int .i64 0, .int .i64 1] w8 (KeyBelow w8 ⟨2, 0, 0, 0, 1⟩) by
          have := node_key S { D with nk := up2 D.nk 0 t xk } 0 1 w8 J8.out.sto (by show 0 < D.nc; rw [L.out.nc]; omega) (by show D.na.th 0 = true; rw [L.out.na]; exact acPre_th 1 0 (by omega)) (by omega) (by omega)
          rw [show ({ D with nk := up2 D.nk 0 t xk } : SC).na.ve 0 = 0 by show D.na.ve 0 = 0; rw [L.out.na]; rfl] at this
          exact this)
        go_at_call 22
        refine NK8.out.mono ?_
        rintro e w9 ⟨rfl, hb9⟩
        have J9 := Lib.hid ((J8.out.below hb9).toS.toI ⟨2, 0, 0, 0, 1⟩)
        clear hb9 NK8 J8
        go_wp2_with (fail)
        obtain ⟨PW, hPW⟩ : ∃ PW, PW = wayF { D with nk := up2 D.nk 0 t xk } ⟨2, 0, 0, 0, 1⟩ (32 * u + 7) := ⟨_, rfl⟩
        obtain ⟨f1, f2⟩ := faults_way D L.out t u ht3 hu3 xk _ AM.out
        rw [← hPW] at f1 f2
        have WY := Lib.hid (fun W (hW : Sto W S { D with nk := up2 D.nk 0 t xk }) => show Calls Tryd.prog 23 #[.pointer (some ⟨S.s, 0, none⟩), (⟨2, 0, 0, 0, 1⟩ : K).v, .int .u32 (32 * u + 7)] W (WayP W PW) from hPW ▸ way_any S { D with nk := up2 D.nk 0 t xk } ⟨2, 0, 0, 0, 1⟩ (32 * u + 7) W hW (by omega) (by omega))
        clear hPW
        go_at_call 23
        refine (WY.out _ J9.out.sto).mono ?_
        rintro e w10 ⟨rfl, hb10⟩
        have B10 := Lib.hid (J9.out.below hb10).bel
        clear hb10 WY J9
        by_cases hut : u = t
        · obtain ⟨g1, g2, g3, g4⟩ := f1 hut
          dsimp only at g1 g2 g3 g4
          have hbe : ((u : Int) == (t : Int)) = true := by simp; omega
          rw [g1, g2, g3, g4]
          clear f1 f2 g1 g2 g3 g4
          go_wp2
          go_ret
          exact ⟨rfl, B10.out.alloc B10.out.size _⟩
        · obtain ⟨g1, g2, g3, g4⟩ := f2 hut
          dsimp only at g1 g2 g3 g4
          have hbe : ((u : Int) == (t : Int)) = false := by simp; omega
          rw [g1, g2, g3, g4]
          clear f1 f2 g1 g2 g3 g4
          go_wp2
          go_ret
          exact ⟨rfl, B10.out.alloc B10.out.size _⟩
      · go_wp2_with (fail)
        go_at_call 20
        refine (PK.out _ J.out.sto).mono ?_
        rintro e w7 ⟨rfl, hb7⟩
        have J := Lib.hid (J.out.below hb7)
        obtain ⟨c0, c1, c2, c3, c4⟩ := K.facts J.out.rk
        have lk := J.out.rk.lt
        have f0 := J.out.rk.frozen 0
        have f1 := J.out.rk.frozen 1
        have f2 := J.out.rk.frozen 2
        have f3 := J.out.rk.frozen 3
        have f4 := J.out.rk.frozen 4
        clear hb7
        have J := Lib.hid ((J.out.box ⟨3, 0, 0, 0, 0⟩).ver 1)
        have AM := Lib.hid (show Amiss D ⟨3, 0, 1, 0, 0⟩ 2 from .inl ⟨by simp [memB, liveS, liveB, thereB, L.out.pc, L.out.pa, acPre, pre], rfl⟩)
        have hok : okK ⟨3, 0, 1, 0, 0⟩ := .inr (.inr (.inr ⟨rfl, by simp, by simp, by simp, by simp, by simp, by simp, rfl⟩))
        obtain ⟨xk, hxk⟩ : ∃ xk : K, xk = ⟨3, 0, 1, 0, 0⟩ := ⟨_, rfl⟩
        go_wp2_with (fail)
        rw [← hxk] at AM hok
        obtain ⟨Wc, hWc, J1⟩ := J.out.name hxk
        refine at_world hWc ?_
        clear J hWc
        clear hxk PK NK N1 N2 N3 F9 SN
        have z0 := J1.out.sto.p0
        obtain ⟨z1, z2, z3, z4, z5⟩ := K.facts J1.out.rk
        have lw := J1.out.rk.lt
        have lz2 := J1.out.sto.lt S.s (.inl rfl)
        go_region_held3 (fun W => W.cell? ⟨S.s, 0, none⟩ = some (.pointer (some ⟨S.n.b, 0, none⟩)) ∧ W.cell? ⟨wr.heap.size, 0, none⟩ = some (.int .i64 xk.kind) ∧ W.cell? ⟨wr.heap.size, 1, none⟩ = some (.int .i64 xk.id) ∧ W.cell? ⟨wr.heap.size, 2, none⟩ = some (.int .i64 xk.ver) ∧ W.cell? ⟨wr.heap.size, 3, none⟩ = some (.int .i64 xk.rights) ∧ W.cell? ⟨wr.heap.size, 4, none⟩ = some (.int .u32 xk.data))
          (first | exact ⟨z0, z1, z2, z3, z4, z5⟩ | go_keep)
          ((go_at_call 24; refine (set_yes S.n D.nc D.na D.nk 0 t xk _ J1.out.drew.sto.no (by rw [L.out.nc]; omega) (by rw [L.out.nc]; omega) (by rw [L.out.na]; exact acPre_th 1 0 (by omega)) ht3 hok).mono ?_; rintro e w8 ⟨rfl, hno, ho⟩; have J8 := Lib.hid (J1.out.drew.set hno ho); have z0 := J8.out.sto.p0; obtain ⟨z1, z2, z3, z4, z5⟩ := K.facts J8.out.rk; clear hno ho))
        clear z0 z1 z2 z3 z4 z5 J1
        go_wp2_with (fail)
        have NK8 := Lib.hid (show Calls Tryd.prog 22 #[.pointer (some ⟨S.s, 0, none⟩), .int .i64 0, .int .i64 1] w8 (KeyBelow w8 ⟨2, 0, 0, 0, 1⟩) by
          have := node_key S { D with nk := up2 D.nk 0 t xk } 0 1 w8 J8.out.sto (by show 0 < D.nc; rw [L.out.nc]; omega) (by show D.na.th 0 = true; rw [L.out.na]; exact acPre_th 1 0 (by omega)) (by omega) (by omega)
          rw [show ({ D with nk := up2 D.nk 0 t xk } : SC).na.ve 0 = 0 by show D.na.ve 0 = 0; rw [L.out.na]; rfl] at this
          exact this)
        go_at_call 22
        refine NK8.out.mono ?_
        rintro e w9 ⟨rfl, hb9⟩
        have J9 := Lib.hid ((J8.out.below hb9).toS.toI ⟨2, 0, 0, 0, 1⟩)
        clear hb9 NK8 J8
        go_wp2_with (fail)
        obtain ⟨PW, hPW⟩ : ∃ PW, PW = wayF { D with nk := up2 D.nk 0 t xk } ⟨2, 0, 0, 0, 1⟩ (32 * u + 7) := ⟨_, rfl⟩
        obtain ⟨f1, f2⟩ := faults_way D L.out t u ht3 hu3 xk _ AM.out
        rw [← hPW] at f1 f2
        have WY := Lib.hid (fun W (hW : Sto W S { D with nk := up2 D.nk 0 t xk }) => show Calls Tryd.prog 23 #[.pointer (some ⟨S.s, 0, none⟩), (⟨2, 0, 0, 0, 1⟩ : K).v, .int .u32 (32 * u + 7)] W (WayP W PW) from hPW ▸ way_any S { D with nk := up2 D.nk 0 t xk } ⟨2, 0, 0, 0, 1⟩ (32 * u + 7) W hW (by omega) (by omega))
        clear hPW
        go_at_call 23
        refine (WY.out _ J9.out.sto).mono ?_
        rintro e w10 ⟨rfl, hb10⟩
        have B10 := Lib.hid (J9.out.below hb10).bel
        clear hb10 WY J9
        by_cases hut : u = t
        · obtain ⟨g1, g2, g3, g4⟩ := f1 hut
          dsimp only at g1 g2 g3 g4
          have hbe : ((u : Int) == (t : Int)) = true := by simp; omega
          rw [g1, g2, g3, g4]
          clear f1 f2 g1 g2 g3 g4
          go_wp2
          go_ret
          exact ⟨rfl, B10.out.alloc B10.out.size _⟩
        · obtain ⟨g1, g2, g3, g4⟩ := f2 hut
          dsimp only at g1 g2 g3 g4
          have hbe : ((u : Int) == (t : Int)) = false := by simp; omega
          rw [g1, g2, g3, g4]
          clear f1 f2 g1 g2 g3 g4
          go_wp2
          go_ret
          exact ⟨rfl, B10.out.alloc B10.out.size _⟩

end Go.Proofs.YtdlemkmkheokkaaDoor
