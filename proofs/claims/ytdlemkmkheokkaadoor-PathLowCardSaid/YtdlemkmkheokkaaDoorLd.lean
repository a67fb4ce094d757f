/- turnkeylaw9.PathLow answers true for every input: the walk. -/
import Derived.Test.YtdlemkmkheokkaaDoorMg
namespace Go.Proofs.YtdlemkmkheokkaaDoor
open Go.RowKit

theorem Ints.one {w : World} {lo : Nat} {v : Value} {x : Int} (h : Ints w lo v [x]) : ∃ g cap, v = .slice (some ⟨g, 0, none⟩) 1 cap ∧ lo ≤ g ∧ g < w.heap.size ∧ w.cell? ⟨g, 0, none⟩ = some (.int .i64 x) := by
  rcases h.2 with ⟨_, h2⟩ | ⟨g, cap, cur, rfl, hlo, hg, _⟩
  · simp at h2
  · exact ⟨g, cap, rfl, hlo, (h.lt g rfl).2, by have := World.ownsRow.cells h (g := g) rfl 0 (.int .i64 x) (by simp); simpa [Addr.add] using this⟩

set_option maxHeartbeats 1000000 in
/-- two lists of one number each -/
theorem same_one (g b ca cb : Nat) (x : Int) (w : World) (h1 : w.cell? ⟨g, 0, none⟩ = some (.int .i64 x)) (h2 : w.cell? ⟨b, 0, none⟩ = some (.int .i64 x)) :
    Calls Tryd.prog 37 #[.slice (some ⟨g, 0, none⟩) 1 ca, .slice (some ⟨b, 0, none⟩) 1 cb] w (TrueBelow w) := by
  go_enter Tryd.func37, Tryd.ntmps37
  go_wp2
  go_loopw [5] (fun i wr => (i = .int .i64 0 ∨ i = .int .i64 1) ∧ Below w.heap.size w wr ∧ wr.heap = w.heap) (fun i _ => 1 - (intOf i).toNat)
  case atStart => exact ⟨.inl rfl, Below.refl _ _, rfl⟩
  case round =>
    obtain ⟨rfl | rfl, hb, he⟩ := hrel
    · have c1 : wr.cell? ⟨g, 0, none⟩ = some (.int .i64 x) := by unfold World.cell? at h1 ⊢; rw [he]; exact h1
      have c2 : wr.cell? ⟨b, 0, none⟩ = some (.int .i64 x) := by unfold World.cell? at h2 ⊢; rw [he]; exact h2
      go_wp2
      go_region
      all_goals go_wp2
      all_goals go_roundw
      case rel => exact ⟨.inr rfl, hb.drew, he⟩
      case measure => simp [intOf]
    · go_wp2
      go_ret
      exact ⟨rfl, hb⟩

/-- in node 0 the page's key lies in slot t alone -/
structure Lo (t : Nat) (D : SC) : Prop where
  nc : D.nc = 1
  pc : D.pc = 1
  na : D.na = acPre 1
  pa : D.pa = acPre 1
  ks : D.nk 0 t = ⟨3, 0, 0, 0, 0⟩
theorem low_way (D : SC) (t : Nat) (ht : t < 16) (F : Lo t D) (h x : Int) (h1 : 1 ≤ h) (h4 : h ≤ 4) (x0 : 0 ≤ x) (x1 : x < sizeF (h - 1)) :
    (32 ≤ x → (wayF D ⟨2, 0, 0, 0, h⟩ (t * sizeF (h - 1) + x)).fault = 3) ∧
    (x < 32 → (wayF D ⟨2, 0, 0, 0, h⟩ (t * sizeF (h - 1) + x)).fault = 0 ∧ (wayF D ⟨2, 0, 0, 0, h⟩ (t * sizeF (h - 1) + x)).at_ = x ∧ (wayF D ⟨2, 0, 0, 0, h⟩ (t * sizeF (h - 1) + x)).nodes = [0]) := by
  have hp := sizeF_pos (h - 1)
  have es := sizeF_step h h1 h4
  have e1 : ((t : Int) * sizeF (h - 1) + x) / sizeF (h - 1) = t := by
    rw [Int.add_comm, Int.add_mul_ediv_right _ _ (by omega), Int.ediv_eq_zero_of_lt x0 x1]; omega
  have e2 : ((t : Int) * sizeF (h - 1) + x) % sizeF (h - 1) = x := by
    rw [Int.add_comm, Int.add_mul_emod_self_right]; exact Int.emod_eq_of_lt x0 x1
  have ml : (memB ⟨2, 0, 0, 0, h⟩ && liveS D ⟨2, 0, 0, 0, h⟩) = true := by
    simp [memB, liveS, liveB, thereB, F.nc, F.na, acPre, pre]; omega
  have mp : (memB ⟨3, 0, 0, 0, 0⟩ && liveS D ⟨3, 0, 0, 0, 0⟩) = true := by
    simp [memB, liveS, liveB, thereB, F.pc, F.pa, acPre, pre]
  have hle : (t : Int) * sizeF (h - 1) ≤ 15 * sizeF (h - 1) := Int.mul_le_mul_of_nonneg_right (by omega) (by omega)
  have ek : D.nk (0 : Int).toNat (((t : Int) * sizeF (h - 1) + x) / sizeF (h - 1)).toNat = ⟨3, 0, 0, 0, 0⟩ := by
    rw [e1]; exact F.ks
  have W0 : wayF D ⟨2, 0, 0, 0, h⟩ (t * sizeF (h - 1) + x) = { walkF D 4 ⟨3, 0, 0, 0, 0⟩ x (false || weakB 0) h with nodes := 0 :: (walkF D 4 ⟨3, 0, 0, 0, 0⟩ x (false || weakB 0) h).nodes } := by
    unfold wayF
    rw [walkF_node ml (by simp [heightF]; omega) (by simp [heightF]; rw [es]; omega) (by simp)]
    dsimp only
    rw [ek, e2]
  rw [W0]
  have es0 : sizeF 0 = 32 := by decide
  refine ⟨fun hx => ?_, fun hx => ?_⟩
  · rw [walkF_range mp (by simp [heightF]; omega) (by simp [heightF, es0]; exact hx)]
  · rw [walkF_page mp (by simp [heightF]; omega) (by simp [heightF, es0]; exact hx) rfl]
    exact ⟨rfl, rfl, rfl⟩

set_option maxRecDepth 100000 in
set_option maxHeartbeats 4000000 in
theorem pathLow_walk (height slot addr : Int) (ha : 0 ≤ addr ∧ addr < 4294967296) (w : World) : Calls Tryd.prog 9 #[.int .i64 height, .int .i64 slot, .int .u32 addr] w (TrueBelow w) := by
  have ha0 := ha.1
  obtain ⟨t, ht, ht3⟩ : ∃ t : Nat, numB slot 16 = (t : Int) ∧ t < 16 := ⟨(numB slot 16).toNat, by have := numB_range slot 16 (by omega); omega, by have := numB_range slot 16 (by omega); omega⟩
  obtain ⟨h, hh, hh0, hh4⟩ : ∃ h : Int, numB height 4 = h ∧ 0 ≤ h ∧ h < 4 := ⟨_, rfl, (numB_range height 4 (by omega)).1, (numB_range height 4 (by omega)).2⟩
  have N1 := Lib.hid (fun W => hh ▸ number_any height 4 W (by omega) (by omega))
  have N2 := Lib.hid (fun W => ht ▸ number_any slot 16 W (by omega) (by omega))
  have F9 := Lib.hid (fun W => first9 W)
  have SN := Lib.hid (show ∀ W, Calls Tryd.prog 18 #[.int .i64 1, .int .i64 1] W (NewSto W 1 1) from fun W => store_new 1 1 W (by omega) (by omega) (by omega) (by omega))
  clear ht hh
  go_enter Tryd.func9, Tryd.ntmps9
  go_wp2_with (fail)
  go_at_call 17
  refine (F9.out _).mono ?_
  rintro e w1 ⟨rfl, hb1⟩
  have HB1 := Lib.hid hb1
  clear hb1
  go_wp2_with (fail)
  go_at_call 26
  refine (N1.out _).mono ?_
  rintro e w' ⟨rfl, rfl⟩
  go_wp2_with (fail)
  go_at_call 26
  refine (N2.out _).mono ?_
  rintro e w' ⟨rfl, rfl⟩
  go_wp2_with (fail)
  go_at_call 18
  refine (SN.out _).mono ?_
  rintro e w2 ⟨S, rfl, hs, hx, hb2⟩
  have I2 := Lib.hid (show LwS w S (SC.new 1 1) w2 from ⟨hs, HB1.out.trans (hb2.mono HB1.out.size), fun x h => Nat.le_trans HB1.out.size (hx x h)⟩)
  have q1 := hs.p1
  have lq := hs.lt S.s (.inl rfl)
  clear hs hx hb2 HB1 N1 N2 F9 SN
  go_wp2_with (fail)
  go_at_call 19
  have I2a := Lib.hid (I2.out.alloc (.cells #[.int .u32 3] 34))
  have hro := Row.one w2 (.int .u32 3) 34
  have hne : (⟨w2.heap.size, 0, none⟩ : Addr).block ≠ S.p.l := by
    have := I2.out.sto.lt S.p.l (.inr (.inr (NA.hl _)))
    show w2.heap.size ≠ S.p.l
    omega
  refine (pmake S.p 1 AC.zero (SC.new 1 1).pw 0 1 1 ⟨w2.heap.size, 0, none⟩ (fun _ => 3) _ I2a.out.sto.pg (by omega) (by omega) (fun j h => absurd h (Nat.not_lt_zero j)) rfl rfl (by omega) hne hro.lt (row_cell1 hro)).mono ?_
  rintro e w3 ⟨rfl, hpg, ho⟩
  have I3 := Lib.hid (I2a.out.page hpg ho)
  have q0 := I3.out.sto.p0
  have lz := I3.out.sto.lt S.s (.inl rfl)
  clear hro hne hpg ho I2 I2a q1 lq
  go_wp2_with (fail)
  go_at_call 21
  refine (nmake0 S.n 1 AC.zero (SC.new 1 1).nk 0 _ I3.out.sto.no (by omega) (by omega) (fun j h => absurd h (Nat.not_lt_zero j)) rfl rfl).mono ?_
  rintro e w4 ⟨rfl, hno, ho⟩
  have I4 := I3.out.make hno ho
  obtain ⟨D, hD⟩ : ∃ D : SC, D = { SC.new 1 1 with pa := AC.zero.take 0, pw := up (SC.new 1 1).pw 0 (pageWords 1 fun _ => 3), na := AC.zero.take 0, nk := up (SC.new 1 1).nk 0 (nodeKeys 0 K.zero) } := ⟨_, rfl⟩
  have I := Lib.hid (show LwS w S D w4 from hD ▸ I4)
  have LO := Lib.hid (show Lo t { D with nk := up2 D.nk 0 t ⟨3, 0, 0, 0, 0⟩ } by subst hD; exact ⟨rfl, rfl, take_pre0, take_pre0, up2_same _ _ _ _⟩)
  have d1 : D.nc = 1 := LO.out.nc
  have d2 : D.pc = 1 := LO.out.pc
  have d3 : D.na = acPre 1 := LO.out.na
  have d4 : D.pa = acPre 1 := LO.out.pa
  clear hno ho hD I3 I4 q0 lz
  have z0 := I.out.sto.p0
  have lz := I.out.sto.lt S.s (.inl rfl)
  have NK := Lib.hid (show Calls Tryd.prog 20 #[.pointer (some ⟨S.s, 0, none⟩), .int .i64 0] w4.drew (KeyBelow w4.drew ⟨3, 0, 0, 0, 0⟩) by
    have := page_key S D 0 w4.drew I.out.drew.sto (by rw [d2]; omega) (by rw [d4]; exact acPre_th 1 0 (by omega))
    rw [d4] at this
    exact this)
  go_wp2_with (fail)
  go_region_held3 (fun W => W.cell? ⟨S.s, 0, none⟩ = some (.pointer (some ⟨S.n.b, 0, none⟩)))
    (first | exact z0 | go_keep)
    ((first | (go_at_call 20; refine NK.out.mono ?_; rintro e w5 ⟨rfl, hb5⟩; have J5 := Lib.hid (I.out.drew.below hb5); have z0 := J5.out.sto.p0; clear hb5) | (go_at_call 24; refine (set_yes S.n D.nc D.na D.nk 0 t ⟨3, 0, 0, 0, 0⟩ _ J5.out.sto.no (by rw [d1]; omega) (by rw [d1]; omega) (by rw [d3]; exact acPre_th 1 0 (by omega)) ht3 (ok_page 0 (by omega) (by omega))).mono ?_; rintro e w6 ⟨rfl, hno, ho⟩; have J6 := Lib.hid (J5.out.set hno ho); have z0 := J6.out.sto.p0; clear hno ho)))
  clear NK I J5 z0
  obtain ⟨D', hD'⟩ : ∃ D' : SC, D' = { D with nk := up2 D.nk 0 t ⟨3, 0, 0, 0, 0⟩ } := ⟨_, rfl⟩
  rw [← hD'] at J6 LO
  clear hD' d1 d2 d3 d4
  have NK := Lib.hid (show Calls Tryd.prog 22 #[.pointer (some ⟨S.s, 0, none⟩), .int .i64 0, .int .i64 (h + 1)] w6 (KeyBelow w6 ⟨2, 0, 0, 0, h + 1⟩) by
    have := node_key S D' 0 (h + 1) w6 J6.out.sto (by rw [LO.out.nc]; omega) (by rw [LO.out.na]; exact acPre_th 1 0 (by omega)) (by omega) (by omega)
    rw [LO.out.na] at this
    exact this)
  go_wp2_with (fail)
  go_at_call 22
  refine NK.out.mono ?_
  rintro e w7 ⟨rfl, hb7⟩
  have J7 := Lib.hid (J6.out.below hb7)
  clear hb7 NK J6
  go_wp2_with (fail)
  go_at_call 25
  refine (psize_yes ⟨2, 0, 0, 0, h + 1⟩ _ (by simp [memB]; omega)).mono ?_
  rintro e w8 ⟨rfl, hb8⟩
  have J := Lib.hid ((J7.out.toI ⟨2, 0, 0, 0, h + 1⟩).below hb8)
  obtain ⟨bk, hbk⟩ : ∃ bk, bk = w7.heap.size := ⟨_, rfl⟩
  rw [← hbk] at J ⊢
  clear hb8 hbk J7
  rw [show heightF ⟨2, 0, 0, 0, h + 1⟩ = h + 1 by simp [heightF]]
  have hp := sizeF_pos (h + 1)
  have hp2 := sizeF_pos (h + 1 - 1)
  have es := sizeF_step (h + 1) (by omega) (by omega)
  have e16 : sizeF (h + 1) / 16 = sizeF (h + 1 - 1) := by omega
  have hn0 : ¬ sizeF (h + 1 - 1) = 0 := by omega
  have x0 : 0 ≤ addr % sizeF (h + 1 - 1) := Int.emod_nonneg _ (by omega)
  have x1 : addr % sizeF (h + 1 - 1) < sizeF (h + 1 - 1) := Int.emod_lt_of_pos _ (by omega)
  have LW := Lib.hid (low_way D' t ht3 LO.out (h + 1) (addr % sizeF (h + 1 - 1)) (by omega) (by omega) x0 x1)
  have LN := Lib.hid (show (wayF D' ⟨2, 0, 0, 0, h + 1⟩ (t * sizeF (h + 1 - 1))).nodes = [0] by
    have := ((low_way D' t ht3 LO.out (h + 1) 0 (by omega) (by omega) (by omega) (by omega)).2 (by omega)).2.2
    rwa [Int.add_zero] at this)
  clear es
  rw [← e16] at LW LN x0 x1 hn0 hp2
  clear e16
  generalize sizeF (h + 1) = n at *
  have hm : (t : Int) * (n / 16) ≤ 15 * (n / 16) := Int.mul_le_mul_of_nonneg_right (by omega) (by omega)
  have hm0 : 0 ≤ (t : Int) * (n / 16) := Int.mul_nonneg (by omega) (by omega)
  obtain ⟨c0, c1, c2, c3, c4⟩ := K.facts J.out.rk
  have lk := J.out.rk.lt
  have WY := Lib.hid (fun W x (hW : Sto W S D') (h0 : 0 ≤ x) (h1 : x < 4294967296) => way_any S D' ⟨2, 0, 0, 0, h + 1⟩ x W hW h0 h1)
  have NY := Lib.hid (fun W x (hW : Sto W S D') (h0 : 0 ≤ x) (h1 : x < 4294967296) => nodes_any S D' ⟨2, 0, 0, 0, h + 1⟩ x W hW h0 h1)
  go_wp2_with (fail)
  generalize addr % (n / 16) = x at *
  obtain ⟨PW, hPW⟩ : ∃ PW, PW = wayF D' ⟨2, 0, 0, 0, h + 1⟩ (t * (n / 16) + x) := ⟨_, rfl⟩
  obtain ⟨f1, f2⟩ := LW.out
  rw [← hPW] at f1 f2
  go_at_call 23
  refine (hPW ▸ WY.out _ (t * (n / 16) + x) J.out.sto (by omega) (by omega) : Calls Tryd.prog 23 _ w8 (WayP w8 PW)).mono ?_
  rintro e w9 ⟨rfl, hb9⟩
  have J9 := Lib.hid (J.out.below hb9)
  clear hb9 LW hPW J c0 c1 c2 c3 c4
  have B9 := Lib.hid J9.out.bel
  by_cases hx : x < 32
  · obtain ⟨g1, g2, _⟩ := f2 hx
    have hb : ¬ 32 ≤ x := by omega
    rw [g1, g2]
    obtain ⟨c0, c1, c2, c3, c4⟩ := K.facts J9.out.rk
    have lk9 := J9.out.rk.lt
    obtain ⟨V, hV⟩ : ∃ V, V = wayF D' ⟨2, 0, 0, 0, h + 1⟩ (t * (n / 16)) := ⟨_, rfl⟩
    have NY2 := Lib.hid (show ∀ W, Sto W S D' → Calls Tryd.prog 36 #[.pointer (some ⟨S.s, 0, none⟩), (⟨2, 0, 0, 0, h + 1⟩ : K).v, .int .u32 (t * (n / 16))] W (NodesP W V) from fun W hW => hV ▸ NY.out W (t * (n / 16)) hW hm0 (by omega))
    have eV : V.nodes = [0] := by rw [hV]; exact LN.out
    clear f1 f2 NY WY LN hV g1 g2
    go_wp2_with (fail)
    go_at_call 36
    refine (NY2.out _ (J9.out.alloc _).sto).mono ?_
    rintro e w10 ⟨v, rfl, hv, hb10⟩
    rw [eV] at hv
    obtain ⟨g, cap, rfl, hg0, hg1, hgc⟩ := hv.one
    have HB10 := Lib.hid (J9.out.toS.alloc (.cells #[.int .i64 PW.page, .int .i64 x, .bool PW.ro] 41) |>.below hb10).bel
    have SO := Lib.hid (same_one g w10.heap.size cap 1 0 (w10.alloc (.cells #[.int .i64 0] 3)) (by rw [World.cell?_alloc_lt _ _ _ hg1]; exact hgc) ((Row.one w10 (.int .i64 0) 3).cell 0 (by omega)))
    clear hb10 hv hgc J9 c0 c1 c2 c3 c4 NY2 B9
    go_wp2_with (fail)
    go_at_call 37
    refine SO.out.mono ?_
    rintro e w11 ⟨rfl, hb11⟩
    have HB11 := Lib.hid (HB10.out.alloc HB10.out.size (.cells #[.int .i64 0] 3) |>.trans (hb11.mono (by have := HB10.out.size; simp; omega)))
    clear hb11 SO
    go_wp2
    go_ret
    exact ⟨rfl, HB11.out⟩
  · have g1 := f1 (by omega)
    have hb : 32 ≤ x := by omega
    rw [g1]
    clear f1 f2
    go_wp2
    go_ret
    exact ⟨rfl, B9.out.alloc B9.out.size _⟩

end Go.Proofs.YtdlemkmkheokkaaDoor
