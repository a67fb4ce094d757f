/- turnkeylaw9.PathLoops answers true for every input: the walk. -/
import Derived.Test.YtdlemkmkheokkaaDoorMg
import Derived.Deep.DeepCutAuto
namespace Go.Proofs.YtdlemkmkheokkaaDoor
open Go.RowKit

theorem loop_depth (D : SC) (h : Int) (hh : 1 ≤ h) (hh4 : h ≤ 4) (F : Fl 2 1 AC.zero (fun _ => ⟨2, 0, 0, 0, h⟩) 16 D) (x : Int) (h0 : 0 ≤ x) (hx : x < sizeF h) : (wayF D ⟨2, 0, 0, 0, h⟩ x).fault = 5 := by
  have ml : (memB ⟨2, 0, 0, 0, h⟩ && liveS D ⟨2, 0, 0, 0, h⟩) = true := by
    simp [memB, liveS, liveB, thereB, F.nc, F.na, acPre, pre]; omega
  have hs := slot_lt x h h0 hh hh4 hx
  unfold wayF
  rw [walkF_node ml (by simp [heightF]; omega) (by simp [heightF]; omega) (by simp)]
  have e : D.nk (0 : Int).toNat (x / sizeF (h - 1)).toNat = ⟨2, 0, 0, 0, h⟩ := F.ks _ (by omega)
  show (walkF D 4 (D.nk (0 : Int).toNat (x / sizeF (h - 1)).toNat) _ _ h).fault = 5
  rw [e, walkF_depth ml (by simp [heightF])]
theorem loop_void (D : SC) (h : Int) (hh : 1 ≤ h) (hh4 : h ≤ 4) (F : Fl 2 1 AC.zero (fun _ => ⟨2, 0, 0, 0, h⟩) 16 D) (s : Nat) (hs : s < 16) :
    (wayF { D with nk := up2 D.nk 0 s ⟨2, 0, 0, 0, 0⟩ } ⟨2, 0, 0, 0, h⟩ (s * (sizeF h / 16))).fault = 2 := by
  have ml : (memB ⟨2, 0, 0, 0, h⟩ && liveS { D with nk := up2 D.nk 0 s ⟨2, 0, 0, 0, 0⟩ } ⟨2, 0, 0, 0, h⟩) = true := by
    simp [memB, liveS, liveB, thereB, F.nc, F.na, acPre, pre]; omega
  have hp := sizeF_pos (h - 1)
  have e1 := sizeF_step h hh hh4
  have e2 : sizeF h / 16 = sizeF (h - 1) := by omega
  unfold wayF
  rw [walkF_node ml (by simp [heightF]; omega) (by simp [heightF]; rw [e2, e1]; have : (s : Int) * sizeF (h - 1) < 16 * sizeF (h - 1) := Int.mul_lt_mul_of_pos_right (by omega) (by omega); omega) (by simp)]
  have e3 : ((s : Int) * (sizeF h / 16)) / sizeF (h - 1) = s := by rw [e2]; exact Int.mul_ediv_cancel _ (by omega)
  have e : ({ D with nk := up2 D.nk 0 s ⟨2, 0, 0, 0, 0⟩ } : SC).nk (0 : Int).toNat (((s : Int) * (sizeF h / 16)) / sizeF (h - 1)).toNat = ⟨2, 0, 0, 0, 0⟩ := by
    rw [e3]; exact up2_same _ _ _ _
  show (walkF _ 4 (({ D with nk := up2 D.nk 0 s ⟨2, 0, 0, 0, 0⟩ } : SC).nk (0 : Int).toNat (((s : Int) * (sizeF h / 16)) / sizeF (h - 1)).toNat) _ _ h).fault = 2
  rw [e, walkF_void (by simp [memB])]

set_option maxRecDepth 100000 in
set_option maxHeartbeats 4000000 in
theorem pathLoops_walk (height slot addr : Int) (ha : 0 ≤ addr ∧ addr < 4294967296) (w : World) : Calls Tryd.prog 4 #[.int .i64 height, .int .i64 slot, .int .u32 addr] w (TrueBelow w) := by
  have ha0 := ha.1
  obtain ⟨h, hh, hh0, hh3⟩ : ∃ h : Int, bits .and .i64 height 3 = h ∧ 0 ≤ h ∧ h ≤ 3 := ⟨_, rfl, by rw [and3]; omega, by rw [and3]; omega⟩
  obtain ⟨t, ht, ht3⟩ : ∃ t : Nat, bits .and .i64 slot 15 = (t : Int) ∧ t < 16 := ⟨(slot % 16).toNat, by rw [and15]; omega, by omega⟩
  have F9 := Lib.hid (fun W => first9 W)
  have SN := Lib.hid (show ∀ W, Calls Tryd.prog 18 #[.int .i64 2, .int .i64 1] W (NewSto W 2 1) from fun W => store_new 2 1 W (by omega) (by omega) (by omega) (by omega))
  go_enter Tryd.func4, Tryd.ntmps4
  go_wp2_with (fail)
  go_at_call 17
  refine (F9.out _).mono ?_
  rintro e w1 ⟨rfl, hb1⟩
  have HB1 := Lib.hid hb1
  clear hb1
  go_wp2_with (fail)
  go_at_call 18
  refine (SN.out _).mono ?_
  rintro e w2 ⟨S, rfl, hs, hx, hb2⟩
  have I2 := Lib.hid (show LwS w S (SC.new 2 1) w2 from ⟨hs, HB1.out.trans (hb2.mono HB1.out.size), fun x h => Nat.le_trans HB1.out.size (hx x h)⟩)
  have q0 := hs.p0
  have lq := hs.lt S.s (.inl rfl)
  clear hs hx hb2 HB1
  go_wp2_with (fail)
  go_at_call 21
  refine (nmake0 S.n 2 AC.zero (SC.new 2 1).nk 0 _ I2.out.sto.no (by omega) (by omega) (fun j h => absurd h (Nat.not_lt_zero j)) rfl rfl).mono ?_
  rintro e w3 ⟨rfl, hno, ho⟩
  have I3 := Lib.hid (I2.out.make hno ho)
  obtain ⟨D3, hD3⟩ : ∃ D, D = { SC.new 2 1 with na := (SC.new 2 1).na.take 0, nk := up (SC.new 2 1).nk 0 (nodeKeys 0 K.zero) } := ⟨_, rfl⟩
  rw [← hD3] at I3
  have L3 := Lib.hid (show Fl 2 1 AC.zero (fun _ => ⟨2, 0, 0, 0, h + 1⟩) 0 D3 by subst hD3; exact ⟨rfl, rfl, rfl, take_pre0, fun s h => absurd h (Nat.not_lt_zero s)⟩)
  clear hno ho hD3 I2 q0
  go_wp2
  go_loopw [10] (fun i wr => ∃ (n : Nat) (D : SC), n ≤ 16 ∧ i = .int .i64 n ∧ Hid (LwS w S D wr) ∧ Hid (Fl 2 1 AC.zero (fun _ => ⟨2, 0, 0, 0, h + 1⟩) n D)) (fun i _ => 16 - (intOf i).toNat)
  case atStart => exact ⟨0, D3, by omega, rfl, I3, L3⟩
  case round =>
    clear I3 L3
    obtain ⟨n, D, hn, rfl, I, L⟩ := hrel
    by_cases hn16 : n < 16
    · have hb : decide ((n : Int) < 16) = true := by simp; omega
      have z0 := I.out.sto.p0
      have lz := I.out.sto.lt S.s (.inl rfl)
      have NK := Lib.hid (show Calls Tryd.prog 22 #[.pointer (some ⟨S.s, 0, none⟩), .int .i64 0, .int .i64 (h + 1)] wr.drew (KeyBelow wr.drew ⟨2, 0, 0, 0, h + 1⟩) by
        have := node_key S D 0 (h + 1) wr.drew I.out.drew.sto (by rw [L.out.nc]; omega) (by rw [L.out.na]; exact acPre_th 1 0 (by omega)) (by omega) (by omega)
        rw [L.out.na] at this
        exact this)
      go_wp2_with (fail)
      go_region_held3 (fun W => W.cell? ⟨S.s, 0, none⟩ = some (.pointer (some ⟨S.n.b, 0, none⟩)))
        (first | exact z0 | go_keep)
        ((first | (go_at_call 22; refine NK.out.mono ?_; rintro e w5 ⟨rfl, hb5⟩; have J5 := Lib.hid (I.out.drew.below hb5); have z0 := J5.out.sto.p0; clear hb5) | (go_at_call 24; refine (set_yes S.n D.nc D.na D.nk 0 n ⟨2, 0, 0, 0, h + 1⟩ _ J5.out.sto.no (by rw [L.out.nc]; omega) (by rw [L.out.nc]; omega) (by rw [L.out.na]; exact acPre_th 1 0 (by omega)) hn16 (ok_node 0 (h + 1) (by omega) (by omega) (by omega) (by omega))).mono ?_; rintro e w6 ⟨rfl, hno, ho⟩; have J6 := Lib.hid (J5.out.set hno ho); have z0 := J6.out.sto.p0; clear hno ho)))
      go_wp2
      go_roundw
      case rel => exact ⟨n + 1, _, by omega, by go_num, J6, Lib.hid L.out.set⟩
      case measure => simp [intOf]; omega
    · obtain rfl : n = 16 := by omega
      have NK := Lib.hid (show Calls Tryd.prog 22 #[.pointer (some ⟨S.s, 0, none⟩), .int .i64 0, .int .i64 (h + 1)] wr (KeyBelow wr ⟨2, 0, 0, 0, h + 1⟩) by
        have := node_key S D 0 (h + 1) wr I.out.sto (by rw [L.out.nc]; omega) (by rw [L.out.na]; exact acPre_th 1 0 (by omega)) (by omega) (by omega)
        rw [L.out.na] at this
        exact this)
      go_wp2_with (fail)
      go_at_call 22
      refine NK.out.mono ?_
      rintro e w5 ⟨rfl, hb5⟩
      have I5 := Lib.hid (I.out.below hb5)
      clear hb5 NK
      go_wp2_with (fail)
      go_at_call 25
      refine (psize_yes ⟨2, 0, 0, 0, h + 1⟩ _ (by simp [memB]; omega)).mono ?_
      rintro e w6 ⟨rfl, hb6⟩
      have J := Lib.hid ((I5.out.toI ⟨2, 0, 0, 0, h + 1⟩).below hb6)
      obtain ⟨bk, hbk⟩ : ∃ bk, bk = w5.heap.size := ⟨_, rfl⟩
      rw [← hbk] at J ⊢
      clear hb6 hbk I I5
      rw [show heightF ⟨2, 0, 0, 0, h + 1⟩ = h + 1 by simp [heightF]]
      have hp := sizeF_pos (h + 1)
      have ex : addr.tmod (sizeF (h + 1)) = addr % sizeF (h + 1) := Int.tmod_eq_emod_of_nonneg ha0
      have x0 : 0 ≤ addr % sizeF (h + 1) := Int.emod_nonneg _ (by omega)
      have x1 : addr % sizeF (h + 1) < sizeF (h + 1) := Int.emod_lt_of_pos _ (by omega)
      rw [← ex] at x0 x1
      obtain ⟨P, hP⟩ : ∃ P, P = wayF D ⟨2, 0, 0, 0, h + 1⟩ (addr.tmod (sizeF (h + 1))) := ⟨_, rfl⟩
      have s4 : P.fault = 5 := by rw [hP]; exact loop_depth D (h + 1) (by omega) (by omega) L.out _ x0 x1
      have WY := Lib.hid (show ∀ W, Sto W S D → Calls Tryd.prog 23 #[.pointer (some ⟨S.s, 0, none⟩), (⟨2, 0, 0, 0, h + 1⟩ : K).v, .int .u32 (addr.tmod (sizeF (h + 1)))] W (WayP W P) from fun W hW => hP ▸ way_any S D ⟨2, 0, 0, 0, h + 1⟩ (addr.tmod (sizeF (h + 1))) W hW x0 (by omega))
      clear hP ex x0 x1
      have LV := Lib.hid (loop_void D (h + 1) (by omega) (by omega) L.out t ht3)
      obtain ⟨n, hn2⟩ : ∃ n, n = sizeF (h + 1) := ⟨_, rfl⟩
      rw [← hn2] at WY LV hp ⊢
      clear hn2
      obtain ⟨c0, c1, c2, c3, c4⟩ := K.facts J.out.rk
      have lk := J.out.rk.lt
      have hn0 : ¬ n = 0 := by omega
      go_wp2_with (fail)
      have lS := J.out.sto.lt w6.heap.size
      have lB := J.out.bel.size
      go_cut [14, 15] from 62 to 70 (fun _ s15 wx => s15 = .int .i64 5 ∧ Hid (LwI w S D bk ⟨2, 0, 0, 0, h + 1⟩ wx))
      case first =>
        go_region_with ((go_at_call 23; refine (WY.out _ (by first | exact J.out.drew.sto | exact (J.out.drew.alloc _).sto)).mono ?_; rintro e w7 ⟨rfl, hb7⟩; have J7 := Lib.hid (LwI.below (by first | exact J.out.drew | exact J.out.drew.alloc _) hb7); (try (have r7 : Row w7 w6.heap.size 3 (plCell 0 0 false) := (pl_new w6.drew).below hb7; obtain ⟨p0, p1, p2, q0, q1, q2⟩ := pl_facts r7)); clear hb7))
        all_goals (go_wp2_with (fail); go_meet; refine ⟨rfl, Lib.hid ?_⟩; first | exact J7.out.alloc _ | exact J7.out.other (pl_only _ w6.heap.size _ _ _) (fun e => Nat.lt_irrefl _ (lS e)) (Nat.ne_of_gt lk) lB)
      case rest =>
        obtain ⟨rfl, J8⟩ := hcut
        clear c0 c1 c2 c3 c4 lk lS lB J s4 WY
        have z0 := J8.out.sto.p0
        have lz := J8.out.sto.lt S.s (.inl rfl)
        have NK := Lib.hid (show Calls Tryd.prog 22 #[.pointer (some ⟨S.s, 0, none⟩), .int .i64 0, .int .i64 0] wc.drew (KeyBelow wc.drew ⟨2, 0, 0, 0, 0⟩) by
          have := node_key S D 0 0 wc.drew J8.out.drew.sto (by rw [L.out.nc]; omega) (by rw [L.out.na]; exact acPre_th 1 0 (by omega)) (by omega) (by omega)
          rw [L.out.na] at this
          exact this)
        go_wp2_with (fail)
        go_region_held3 (fun W => W.cell? ⟨S.s, 0, none⟩ = some (.pointer (some ⟨S.n.b, 0, none⟩)))
          (first | exact z0 | go_keep)
          ((first | (go_at_call 22; refine NK.out.mono ?_; rintro e w9 ⟨rfl, hb9⟩; have J9 := Lib.hid (J8.out.drew.below hb9); have z0 := J9.out.sto.p0; clear hb9) | (go_at_call 24; refine (set_yes S.n D.nc D.na D.nk 0 t ⟨2, 0, 0, 0, 0⟩ _ J9.out.sto.no (by rw [L.out.nc]; omega) (by rw [L.out.nc]; omega) (by rw [L.out.na]; exact acPre_th 1 0 (by omega)) ht3 (ok_node 0 0 (by omega) (by omega) (by omega) (by omega))).mono ?_; rintro e w10 ⟨rfl, hno, ho⟩; have J10 := Lib.hid (J9.out.set hno ho); have z0 := J10.out.sto.p0; clear hno ho)))
        clear NK J8 J9 z0
        obtain ⟨c0, c1, c2, c3, c4⟩ := K.facts J10.out.rk
        have lk := J10.out.rk.lt
        have hq : n / 16 ≤ 131072 ∧ 0 ≤ n / 16 := by omega
        have hm : (t : Int) * (n / 16) ≤ 16 * (n / 16) := Int.mul_le_mul_of_nonneg_right (by omega) hq.2
        have hm0 : 0 ≤ (t : Int) * (n / 16) := Int.mul_nonneg (by omega) hq.2
        go_wp2_with (fail)
        obtain ⟨Q, hQ⟩ : ∃ Q, Q = wayF { D with nk := up2 D.nk 0 t ⟨2, 0, 0, 0, 0⟩ } ⟨2, 0, 0, 0, h + 1⟩ (t * (n / 16)) := ⟨_, rfl⟩
        have s4 : Q.fault = 2 := by rw [hQ]; exact LV.out
        have WY := Lib.hid (show Calls Tryd.prog 23 #[.pointer (some ⟨S.s, 0, none⟩), (⟨2, 0, 0, 0, h + 1⟩ : K).v, .int .u32 (t * (n / 16))] w10 (WayP w10 Q) from hQ ▸ way_any S { D with nk := up2 D.nk 0 t ⟨2, 0, 0, 0, 0⟩ } ⟨2, 0, 0, 0, h + 1⟩ (t * (n / 16)) w10 J10.out.sto hm0 (by omega))
        clear hQ
        go_at_call 23
        refine WY.out.mono ?_
        rintro e w11 ⟨rfl, hb11⟩
        have B11 := Lib.hid (J10.out.below hb11).bel
        clear hb11 c0 c1 c2 c3 c4 WY J10
        rw [s4]
        go_wp2
        go_ret
        exact ⟨rfl, B11.out.alloc B11.out.size _⟩

end Go.Proofs.YtdlemkmkheokkaaDoor
