/- turnkeylaw9.PathFills answers true for every input: the walk. -/
import Derived.Test.YtdlemkmkheokkaaDoorMg
namespace Go.Proofs.YtdlemkmkheokkaaDoor
open Go.RowKit

theorem xor1 (t : Nat) (h : t < 16) : ∃ y : Nat, bits .xor .i64 (t : Int) 1 = (y : Int) ∧ y < 16 ∧ y ≠ t := by
  rcases (by omega : t = 0 ∨ t = 1 ∨ t = 2 ∨ t = 3 ∨ t = 4 ∨ t = 5 ∨ t = 6 ∨ t = 7 ∨ t = 8 ∨ t = 9 ∨ t = 10 ∨ t = 11 ∨ t = 12 ∨ t = 13 ∨ t = 14 ∨ t = 15) with rfl | rfl | rfl | rfl | rfl | rfl | rfl | rfl | rfl | rfl | rfl | rfl | rfl | rfl | rfl | rfl
  · exact ⟨1, by decide, by decide, by decide⟩
  · exact ⟨0, by decide, by decide, by decide⟩
  · exact ⟨3, by decide, by decide, by decide⟩
  · exact ⟨2, by decide, by decide, by decide⟩
  · exact ⟨5, by decide, by decide, by decide⟩
  · exact ⟨4, by decide, by decide, by decide⟩
  · exact ⟨7, by decide, by decide, by decide⟩
  · exact ⟨6, by decide, by decide, by decide⟩
  · exact ⟨9, by decide, by decide, by decide⟩
  · exact ⟨8, by decide, by decide, by decide⟩
  · exact ⟨11, by decide, by decide, by decide⟩
  · exact ⟨10, by decide, by decide, by decide⟩
  · exact ⟨13, by decide, by decide, by decide⟩
  · exact ⟨12, by decide, by decide, by decide⟩
  · exact ⟨15, by decide, by decide, by decide⟩
  · exact ⟨14, by decide, by decide, by decide⟩

theorem Ints.two {w : World} {lo : Nat} {v : Value} {x y : Int} (h : Ints w lo v [x, y]) : ∃ g cap, v = .slice (some ⟨g, 0, none⟩) 2 cap := by
  rcases h.2 with ⟨_, h2⟩ | ⟨g, cap, cur, rfl, _⟩
  · simp at h2
  · exact ⟨g, cap, rfl⟩
abbrev pkS : Nat → K := fun s => ⟨3, s, 0, 0, 0⟩
theorem Fl.page {nc pc : Nat} {kk : Nat → K} {n : Nat} {D : SC} (h : Fl nc pc (acPre n) kk n D) (pw : Nat → Nat → Int) : Fl nc pc (acPre (n + 1)) kk n { D with pa := (acPre n).take n, pw := pw } :=
  ⟨h.nc, h.pc, acPre_take n, h.na, h.ks⟩

/-- a store whose node 0 has in each slot the page of the slot's number -/
structure Fu (C : SC) : Prop where
  nc : C.nc = 2
  pc : C.pc = 16
  th : C.na.th 0 = true
  ve : C.na.ve 0 = 0
  pa : C.pa = acPre 16
  ks : ∀ s, s < 16 → C.nk 0 s = pkS s
theorem full_walk (C : SC) (F : Fu C) (f : Nat) (x above : Int) (ro : Bool) (ha : 1 < above) (x0 : 0 ≤ x) (x1 : x < 512) :
    (walkF C (f + 2) ⟨2, 0, 0, 0, 1⟩ x ro above).same ⟨x / 32, x % 32, ro, 0, []⟩ ∧ (walkF C (f + 2) ⟨2, 0, 0, 0, 1⟩ x ro above).nodes = [0] := by
  have s0 : sizeF 0 = 32 := by decide
  have s1 : sizeF 1 = 512 := by decide
  have ml : (memB ⟨2, 0, 0, 0, 1⟩ && liveS C ⟨2, 0, 0, 0, 1⟩) = true := by
    simp [memB, liveS, liveB, thereB, F.nc, F.th, F.ve]
  have ek : C.nk (0 : Int).toNat (x / sizeF (1 - 1)).toNat = ⟨3, x / 32, 0, 0, 0⟩ := by
    show C.nk 0 (x / sizeF 0).toNat = _
    rw [s0, F.ks _ (by omega)]
    show (⟨3, ((x / 32).toNat : Int), 0, 0, 0⟩ : K) = _
    rw [Int.toNat_of_nonneg (by omega)]
  have mp : (memB ⟨3, x / 32, 0, 0, 0⟩ && liveS C ⟨3, x / 32, 0, 0, 0⟩) = true := by
    have h1 : 0 ≤ x / 32 ∧ x / 32 < 16 := by omega
    have h2 : (x / 32).toNat < 16 := by omega
    simp [memB, liveS, liveB, thereB, F.pc, F.pa, acPre, pre, h1.1, h1.2, h2]
  rw [walkF_node ml (by simp [heightF]; omega) (by simp [heightF, s1]; omega) (by simp)]
  dsimp only
  rw [ek, show x % sizeF (1 - 1) = x % 32 from by show x % sizeF 0 = _; rw [s0], walkF_page mp (by simp [heightF]) (by simp [heightF, s0]; omega) rfl, weak_zero]
  exact ⟨⟨rfl, rfl, by simp, rfl⟩, rfl⟩
theorem full_way (C : SC) (F : Fu C) (x : Int) (x0 : 0 ≤ x) :
    (512 ≤ x → (wayF C ⟨2, 0, 0, 0, 1⟩ x).fault = 3) ∧ (x < 512 → (wayF C ⟨2, 0, 0, 0, 1⟩ x).same ⟨x / 32, x % 32, false, 0, []⟩) := by
  have s1 : sizeF 1 = 512 := by decide
  have ml : (memB ⟨2, 0, 0, 0, 1⟩ && liveS C ⟨2, 0, 0, 0, 1⟩) = true := by
    simp [memB, liveS, liveB, thereB, F.nc, F.th, F.ve]
  refine ⟨fun h => ?_, fun h => (full_walk C F 3 x 5 false (by omega) x0 h).1⟩
  unfold wayF
  rw [walkF_range ml (by simp [heightF]) (by simp [heightF, s1]; exact h)]

/-- node 1 has node 0's key in slot t alone -/
structure Fi (t : Nat) (C : SC) : Prop where
  fu : Fu C
  th : C.na.th 1 = true
  ve : C.na.ve 1 = 0
  k1 : C.nk 1 t = ⟨2, 0, 0, 0, 1⟩
  kz : ∀ s, s < 16 → s ≠ t → C.nk 1 s = K.zero
theorem high_way (C : SC) (t : Nat) (F : Fi t C) (ht : t < 16) (s : Nat) (hs : s < 16) (x : Int) (x0 : 0 ≤ x) (x1 : x < 512) :
    (s = t → (wayF C ⟨2, 1, 0, 0, 2⟩ (s * 512 + x)).same ⟨x / 32, x % 32, false, 0, []⟩ ∧ (wayF C ⟨2, 1, 0, 0, 2⟩ (s * 512 + x)).nodes = [1, 0]) ∧
    (s ≠ t → (wayF C ⟨2, 1, 0, 0, 2⟩ (s * 512 + x)).fault = 2) := by
  have s1 : sizeF 1 = 512 := by decide
  have s2 : sizeF 2 = 8192 := by decide
  have ml : (memB ⟨2, 1, 0, 0, 2⟩ && liveS C ⟨2, 1, 0, 0, 2⟩) = true := by
    simp [memB, liveS, liveB, thereB, F.fu.nc, F.th, F.ve]
  have e1 : ((s : Int) * 512 + x) / sizeF (2 - 1) = s := by show ((s : Int) * 512 + x) / sizeF 1 = s; rw [s1]; omega
  have e2 : ((s : Int) * 512 + x) % sizeF (2 - 1) = x := by show ((s : Int) * 512 + x) % sizeF 1 = x; rw [s1]; omega
  have W0 : wayF C ⟨2, 1, 0, 0, 2⟩ (s * 512 + x) = { walkF C 4 (C.nk 1 s) x (false || weakB 0) 2 with nodes := 1 :: (walkF C 4 (C.nk 1 s) x (false || weakB 0) 2).nodes } := by
    unfold wayF
    rw [walkF_node ml (by simp [heightF]) (by simp [heightF, s2]; omega) (by simp)]
    dsimp only
    rw [e1, e2]
    rfl
  rw [W0]
  refine ⟨fun e => ?_, fun e => ?_⟩
  · subst e
    rw [F.k1, weak_zero]
    have := full_walk C F.fu 2 x 2 (false || false) (by omega) x0 x1
    exact ⟨this.1, by show (1 : Int) :: _ = _; rw [this.2]⟩
  · rw [F.kz s hs e, walkF_void (by simp [memB, K.zero])]

set_option maxRecDepth 100000 in
set_option maxHeartbeats 4000000 in
theorem pathFills_walk (addr slot : Int) (ha : 0 ≤ addr ∧ addr < 4294967296) (w : World) : Calls Tryd.prog 8 #[.int .u32 addr, .int .i64 slot] w (TrueBelow w) := by
  obtain ⟨ha0, ha1⟩ := ha
  obtain ⟨t, ht, ht3⟩ : ∃ t : Nat, bits .and .i64 slot 15 = (t : Int) ∧ t < 16 := ⟨(slot % 16).toNat, by rw [and15]; omega, by omega⟩
  obtain ⟨y, hy, hy3, hyt⟩ := xor1 t ht3
  have F9 := Lib.hid (fun W => first9 W)
  have SN := Lib.hid (show ∀ W, Calls Tryd.prog 18 #[.int .i64 2, .int .i64 16] W (NewSto W 2 16) from fun W => store_new 2 16 W (by omega) (by omega) (by omega) (by omega))
  go_enter Tryd.func8, Tryd.ntmps8
  go_wp2_with (fail)
  go_at_call 17
  refine (F9.out _).mono ?_
  rintro e w1 ⟨rfl, hb1⟩
  have HB1 := Lib.hid hb1
  clear hb1
  go_wp2_with (fail)
  go_at_call 18
  refine (SN.out _).mono ?_
  rintro e w2 ⟨S, rfl, hs, hx, hb2⟩
  have I2 := Lib.hid (show LwS w S (SC.new 2 16) w2 from ⟨hs, HB1.out.trans (hb2.mono HB1.out.size), fun x h => Nat.le_trans HB1.out.size (hx x h)⟩)
  have q0 := hs.p0
  have lq := hs.lt S.s (.inl rfl)
  clear hs hx hb2 HB1 SN F9
  go_wp2_with (fail)
  go_at_call 21
  refine (nmake0 S.n 2 AC.zero (SC.new 2 16).nk 0 _ I2.out.sto.no (by omega) (by omega) (fun j h => absurd h (Nat.not_lt_zero j)) rfl rfl).mono ?_
  rintro e w3 ⟨rfl, hno, ho⟩
  have I3 := Lib.hid (I2.out.make hno ho)
  obtain ⟨D3, hD3⟩ : ∃ D, D = { SC.new 2 16 with na := (SC.new 2 16).na.take 0, nk := up (SC.new 2 16).nk 0 (nodeKeys 0 K.zero) } := ⟨_, rfl⟩
  rw [← hD3] at I3
  have L3 := Lib.hid (show Fl 2 16 (acPre 0) pkS 0 D3 by subst hD3; exact ⟨rfl, rfl, acPre_zero.symm, take_pre0, fun s h => absurd h (Nat.not_lt_zero s)⟩)
  clear hno ho hD3 I2 q0
  go_wp2
  go_loopw [8] (fun i wr => ∃ (n : Nat) (D : SC), n ≤ 16 ∧ i = .int .i64 n ∧ Hid (LwS w S D wr) ∧ Hid (Fl 2 16 (acPre n) pkS n D)) (fun i _ => 16 - (intOf i).toNat)
  case atStart => exact ⟨0, D3, by omega, rfl, I3, L3⟩
  case round =>
    clear I3 L3
    obtain ⟨n, D, hn, rfl, I, L⟩ := hrel
    by_cases hn16 : n < 16
    · have hb : decide ((n : Int) < 16) = true := by simp; omega
      have q1 := I.out.sto.p1
      have lq1 := I.out.sto.lt S.s (.inl rfl)
      go_wp2_with (fail)
      go_at_call 19
      have I2a := Lib.hid (I.out.alloc (.cells #[.int .u32 n] 34))
      have hro := Row.one wr (.int .u32 n) 34
      have hne : (⟨wr.heap.size, 0, none⟩ : Addr).block ≠ S.p.l := by
        have := I.out.sto.lt S.p.l (.inr (.inr (NA.hl _)))
        show wr.heap.size ≠ S.p.l
        omega
      have PM := pmake S.p D.pc D.pa D.pw n 1 1 ⟨wr.heap.size, 0, none⟩ (fun _ => n) _ I2a.out.sto.pg (by rw [L.out.pc]; omega) (by rw [L.out.pc]; omega) (fun j h => by rw [L.out.pa]; exact acPre_th n j h) (by rw [L.out.pa]; exact acPre_not n n (Nat.le_refl _)) (by rw [L.out.pa]; rfl) (by omega) hne hro.lt (row_cell1 hro)
      rw [L.out.pa] at PM
      refine PM.mono ?_
      rintro e w4 ⟨rfl, hpg, ho⟩
      obtain ⟨D4, hD4⟩ : ∃ D4 : SC, D4 = { D with pa := (acPre n).take n, pw := up D.pw n (pageWords 1 fun _ => (n : Int)) } := ⟨_, rfl⟩
      have I4 := Lib.hid (show LwS w S D4 w4 from hD4 ▸ I2a.out.page hpg ho)
      have L4 := Lib.hid (show Fl 2 16 (acPre (n + 1)) pkS n D4 from hD4 ▸ L.out.page _)
      clear hro hne hpg ho I2a q1 lq1 PM hD4 I L
      have z0 := I4.out.sto.p0
      have lz := I4.out.sto.lt S.s (.inl rfl)
      have NK := Lib.hid (show Calls Tryd.prog 20 #[.pointer (some ⟨S.s, 0, none⟩), .int .i64 n] w4.drew (KeyBelow w4.drew (pkS n)) by
        have := page_key S D4 n w4.drew I4.out.drew.sto (by rw [L4.out.pc]; omega) (by rw [L4.out.pa]; exact acPre_th (n + 1) n (by omega))
        rw [L4.out.pa] at this
        exact this)
      go_wp2_with (fail)
      go_region_held3 (fun W => W.cell? ⟨S.s, 0, none⟩ = some (.pointer (some ⟨S.n.b, 0, none⟩)))
        (first | exact z0 | go_keep)
        ((first | (go_at_call 20; refine NK.out.mono ?_; rintro e w5 ⟨rfl, hb5⟩; have J5 := Lib.hid (I4.out.drew.below hb5); have z0 := J5.out.sto.p0; clear hb5) | (go_at_call 24; refine (set_yes S.n D4.nc D4.na D4.nk 0 n (pkS n) _ J5.out.sto.no (by rw [L4.out.nc]; omega) (by rw [L4.out.nc]; omega) (by rw [L4.out.na]; exact acPre_th 1 0 (by omega)) hn16 (ok_page n (by omega) (by omega))).mono ?_; rintro e w6 ⟨rfl, hno, ho⟩; have J6 := Lib.hid (J5.out.set hno ho); have z0 := J6.out.sto.p0; clear hno ho)))
      go_wp2
      go_roundw
      case rel => exact ⟨n + 1, _, by omega, by go_num, J6, Lib.hid L4.out.set⟩
      case measure => simp [intOf]; omega
    · obtain rfl : n = 16 := by omega
      have FU := Lib.hid (show Fu D from ⟨L.out.nc, L.out.pc, by rw [L.out.na]; exact acPre_th 1 0 (by omega), by rw [L.out.na]; rfl, L.out.pa, L.out.ks⟩)
      have NK := Lib.hid (show Calls Tryd.prog 22 #[.pointer (some ⟨S.s, 0, none⟩), .int .i64 0, .int .i64 1] wr (KeyBelow wr ⟨2, 0, 0, 0, 1⟩) by
        have := node_key S D 0 1 wr I.out.sto (by rw [L.out.nc]; omega) FU.out.th (by omega) (by omega)
        rw [FU.out.ve] at this
        exact this)
      go_wp2_with (fail)
      go_at_call 22
      refine NK.out.mono ?_
      rintro e w5 ⟨rfl, hb5⟩
      have J := Lib.hid ((I.out.below hb5).toI ⟨2, 0, 0, 0, 1⟩)
      clear hb5 NK I
      go_wp2_with (fail)
      go_at_call 23
      obtain ⟨P, hP⟩ : ∃ P, P = wayF D ⟨2, 0, 0, 0, 1⟩ addr := ⟨_, rfl⟩
      obtain ⟨f1, f2⟩ := full_way D FU.out addr ha0
      rw [← hP] at f1 f2
      refine (hP ▸ way_any S D ⟨2, 0, 0, 0, 1⟩ addr _ J.out.sto ha0 ha1 : Calls Tryd.prog 23 _ _ (WayP _ P)).mono ?_
      rintro e w6 ⟨rfl, hb6⟩
      have J6 := Lib.hid (J.out.below hb6)
      clear hb6 hP J
      by_cases hx : addr < 512
      · obtain ⟨g1, g2, g3, g4⟩ := f2 hx
        dsimp only at g1 g2 g3 g4
        have hb : ¬ 512 ≤ addr := by omega
        rw [g1, g2, g3, g4]
        clear f1 f2 g1 g2 g3 g4
        have z0 := J6.out.sto.p0
        have lz := J6.out.sto.lt S.s (.inl rfl)
        go_wp2_with (fail)
        have J6a := Lib.hid (J6.out.alloc (.cells #[.int .i64 (addr / 32), .int .i64 (addr % 32), .bool false] 41))
        have R6 := Lib.hid (pl_made w6 (addr / 32) (addr % 32) false)
        have nS6 : ¬ S.has w6.heap.size := fun e => Nat.lt_irrefl _ (J6.out.sto.lt _ e)
        obtain ⟨kb, hkb⟩ : ∃ kb, kb = w5.heap.size := ⟨_, rfl⟩
        obtain ⟨pb, hpb⟩ : ∃ pb, pb = w6.heap.size := ⟨_, rfl⟩
        rw [← hkb] at J6a
        rw [← hpb] at R6 nS6
        rw [← hkb, ← hpb]
        go_at_call 21
        have NM := nmake0 S.n D.nc D.na D.nk 1 _ J6a.out.sto.no (by rw [L.out.nc]; omega) (by rw [L.out.nc]; omega) (fun j h => by rw [L.out.na]; exact acPre_th 1 j h) (by rw [L.out.na]; exact acPre_not 1 1 (Nat.le_refl _)) (by rw [L.out.na]; rfl)
        refine NM.mono ?_
        rintro e w7 ⟨rfl, hno, ho⟩
        have hX : ∀ x, (x = S.n.l ∨ x = S.n.k) → S.n.has x := by
          rintro x (rfl | rfl)
          · exact NA.hl _
          · exact NA.hk _
        have R7 := Lib.hid (R6.out.only ho (fun e => nS6 (.inr (.inl (hX _ e)))))
        have J7 := Lib.hid (J6a.out.step ho (fun x hx => .inr (.inl (hX x hx))) (J6a.out.sto.setNo ho hX hno))
        clear NM hno ho z0 lz hkb hpb J6 J6a R6
        obtain ⟨D7, hD7⟩ : ∃ D7 : SC, D7 = { D with na := D.na.take 1, nk := up D.nk 1 (nodeKeys 0 K.zero) } := ⟨_, rfl⟩
        rw [← hD7] at J7
        have FI := Lib.hid (show Fi t { D7 with nk := up2 D7.nk 1 t ⟨2, 0, 0, 0, 1⟩ } by
          subst hD7
          have hna : D.na.take 1 = acPre 2 := by rw [L.out.na]; exact acPre_take 1
          refine ⟨⟨L.out.nc, L.out.pc, by show (D.na.take 1).th 0 = true; rw [hna]; exact acPre_th 2 0 (by omega), by show (D.na.take 1).ve 0 = 0; rw [hna]; rfl, L.out.pa, fun s hs => ?_⟩, by show (D.na.take 1).th 1 = true; rw [hna]; exact acPre_th 2 1 (by omega), by show (D.na.take 1).ve 1 = 0; rw [hna]; rfl, up2_same _ _ _ _, fun s hs he => ?_⟩
          · have e : up2 (up D.nk 1 (nodeKeys 0 K.zero)) 1 t ⟨2, 0, 0, 0, 1⟩ 0 s = D.nk 0 s := by simp [up2, up]
            exact e.trans (L.out.ks s hs)
          · have e : up2 (up D.nk 1 (nodeKeys 0 K.zero)) 1 t ⟨2, 0, 0, 0, 1⟩ 1 s = K.zero := by simp [up2, up, he, nodeKeys]
            exact e)
        have d1 : D7.nc = 2 := FI.out.fu.nc
        have d2 : D7.na.th 1 = true := FI.out.th
        clear hD7
        have z0 := J7.out.sto.p0
        have lz := J7.out.sto.lt S.s (.inl rfl)
        obtain ⟨z1, z2, z3, z4, z5⟩ := K.facts J7.out.rk
        have lk := J7.out.rk.lt
        go_wp2_with (fail)
        go_region_held3 (fun W => W.cell? ⟨S.s, 0, none⟩ = some (.pointer (some ⟨S.n.b, 0, none⟩)) ∧ W.cell? ⟨kb, 0, none⟩ = some (.int .i64 2) ∧ W.cell? ⟨kb, 1, none⟩ = some (.int .i64 0) ∧ W.cell? ⟨kb, 2, none⟩ = some (.int .i64 0) ∧ W.cell? ⟨kb, 3, none⟩ = some (.int .i64 0) ∧ W.cell? ⟨kb, 4, none⟩ = some (.int .u32 1))
          (first | exact ⟨z0, z1, z2, z3, z4, z5⟩ | go_keep)
          ((go_at_call 24; refine (set_yes S.n D7.nc D7.na D7.nk 1 t ⟨2, 0, 0, 0, 1⟩ _ J7.out.drew.sto.no (by rw [d1]; omega) (by rw [d1]; omega) d2 ht3 (ok_node 0 1 (by omega) (by omega) (by omega) (by omega))).mono ?_; rintro e w8 ⟨rfl, hno, ho⟩; have R8 := Lib.hid ((R7.out.below ((Below.refl _ _).drew)).only ho (fun e => nS6 (.inr (.inl (hX _ (.inr e)))))); have J8 := Lib.hid (J7.out.drew.set hno ho); have z0 := J8.out.sto.p0; obtain ⟨z1, z2, z3, z4, z5⟩ := K.facts J8.out.rk; clear hno ho))
        clear z0 z1 z2 z3 z4 z5 J7 R7 lk lz
        obtain ⟨D8, hD8⟩ : ∃ D8 : SC, D8 = { D7 with nk := up2 D7.nk 1 t ⟨2, 0, 0, 0, 1⟩ } := ⟨_, rfl⟩
        rw [← hD8] at J8 FI
        clear hD8 d1 d2
        go_wp2_with (fail)
        have NK8 := Lib.hid (show Calls Tryd.prog 22 #[.pointer (some ⟨S.s, 0, none⟩), .int .i64 1, .int .i64 2] w8 (KeyBelow w8 ⟨2, 1, 0, 0, 2⟩) by
          have := node_key S D8 1 2 w8 J8.out.sto (by rw [FI.out.fu.nc]; omega) FI.out.th (by omega) (by omega)
          rw [FI.out.ve] at this
          exact this)
        go_at_call 22
        refine NK8.out.mono ?_
        rintro e w9 ⟨rfl, hb9⟩
        have J9 := Lib.hid ((J8.out.below hb9).toS.toI ⟨2, 1, 0, 0, 2⟩)
        have R9 := Lib.hid ((R8.out.below hb9).alloc (.cells #[.int .i64 2, .int .i64 1, .int .i64 0, .int .i64 0, .int .u32 2] 36))
        clear hb9 NK8 J8 R8
        obtain ⟨rb, hrb⟩ : ∃ rb, rb = w9.heap.size := ⟨_, rfl⟩
        go_wp2_with (fail)
        obtain ⟨f1, -⟩ := high_way D8 t FI.out ht3 t ht3 addr ha0 hx
        obtain ⟨-, f2⟩ := high_way D8 t FI.out ht3 y hy3 addr ha0 hx
        obtain ⟨h1, -⟩ := high_way D8 t FI.out ht3 t ht3 0 (by omega) (by omega)
        rw [Int.add_zero] at h1
        obtain ⟨P1, hP1⟩ : ∃ P, P = wayF D8 ⟨2, 1, 0, 0, 2⟩ (t * 512 + addr) := ⟨_, rfl⟩
        obtain ⟨P2, hP2⟩ : ∃ P, P = wayF D8 ⟨2, 1, 0, 0, 2⟩ (y * 512 + addr) := ⟨_, rfl⟩
        obtain ⟨P3, hP3⟩ : ∃ P, P = wayF D8 ⟨2, 1, 0, 0, 2⟩ (t * 512) := ⟨_, rfl⟩
        rw [← hP1] at f1
        rw [← hP2] at f2
        rw [← hP3] at h1
        have WY1 := Lib.hid (show ∀ W, Sto W S D8 → Calls Tryd.prog 23 #[.pointer (some ⟨S.s, 0, none⟩), (⟨2, 1, 0, 0, 2⟩ : K).v, .int .u32 (t * 512 + addr)] W (WayP W P1) from fun W hW => hP1 ▸ way_any S D8 ⟨2, 1, 0, 0, 2⟩ (t * 512 + addr) W hW (by omega) (by omega))
        have WY2 := Lib.hid (show ∀ W, Sto W S D8 → Calls Tryd.prog 23 #[.pointer (some ⟨S.s, 0, none⟩), (⟨2, 1, 0, 0, 2⟩ : K).v, .int .u32 (y * 512 + addr)] W (WayP W P2) from fun W hW => hP2 ▸ way_any S D8 ⟨2, 1, 0, 0, 2⟩ (y * 512 + addr) W hW (by omega) (by omega))
        have NY3 := Lib.hid (show ∀ W, Sto W S D8 → Calls Tryd.prog 36 #[.pointer (some ⟨S.s, 0, none⟩), (⟨2, 1, 0, 0, 2⟩ : K).v, .int .u32 (t * 512)] W (NodesP W P3) from fun W hW => hP3 ▸ nodes_any S D8 ⟨2, 1, 0, 0, 2⟩ (t * 512) W hW (by omega) (by omega))
        obtain ⟨⟨g1, g2, g3, g4⟩, -⟩ := f1 rfl
        have g5 := f2 hyt
        have g6 := (h1 rfl).2
        dsimp only at g1 g2 g3 g4
        clear hP1 hP2 hP3 f1 f2 h1 FU FI L
        go_at_call 23
        refine (WY1.out _ J9.out.sto).mono ?_
        rintro e w10 ⟨rfl, hb10⟩
        rw [g1, g2, g3, g4]
        have J10 := Lib.hid (J9.out.below hb10)
        have R10 := Lib.hid (R9.out.below hb10)
        have R13 := Lib.hid (pl_made w10 (addr / 32) (addr % 32) false)
        rw [← hrb] at J10 ⊢
        clear hb10 J9 R9 WY1 hrb
        obtain ⟨z1, z2, z3, z4, z5⟩ := K.facts J10.out.rk
        have lk := J10.out.rk.lt
        obtain ⟨qb, hqb⟩ : ∃ qb, qb = w10.heap.size := ⟨_, rfl⟩
        go_wp2_with (fail)
        go_at_call 23
        have J10a := Lib.hid (J10.out.alloc (.cells #[.int .i64 (addr / 32), .int .i64 (addr % 32), .bool false] 41))
        refine (WY2.out _ J10a.out.sto).mono ?_
        rintro e w11 ⟨rfl, hb11⟩
        rw [g5]
        have J11 := Lib.hid (J10a.out.below hb11)
        have R11 := Lib.hid ((R10.out.alloc (.cells #[.int .i64 (addr / 32), .int .i64 (addr % 32), .bool false] 41)).below hb11)
        have R14 := Lib.hid (R13.out.below hb11)
        rw [← hqb] at R14 ⊢
        clear hb11 J10 J10a R10 R13 WY2 hqb z1 z2 z3 z4 z5 lk
        obtain ⟨z1, z2, z3, z4, z5⟩ := K.facts J11.out.rk
        obtain ⟨y1, y2, y3, -, -, -⟩ := pl_facts R11.out
        obtain ⟨x1, x2, x3, -, -, -⟩ := pl_facts R14.out
        have lk := J11.out.rk.lt
        have lp := R11.out.lt
        have lr := R14.out.lt
        go_wp2_with (fail)
        go_at_call 36
        refine (NY3.out _ (J11.out.alloc _).sto).mono ?_
        rintro e w12 ⟨v, rfl, hv, hb12⟩
        rw [g6] at hv
        obtain ⟨g, cap, rfl⟩ := hv.two
        have B12 := Lib.hid (J11.out.toS.alloc (.cells #[.int .i64 P2.page, .int .i64 P2.at_, .bool P2.ro] 41) |>.below hb12).bel
        clear hb12 hv J11 R11 R14 NY3
        go_wp2
        go_ret
        exact ⟨rfl, B12.out⟩
      · have g1 := f1 (by omega)
        have hb : 512 ≤ addr := by omega
        have B6 := Lib.hid J6.out.bel
        rw [g1]
        clear f1 f2 J6
        go_wp2
        go_ret
        exact ⟨rfl, B6.out.alloc B6.out.size _⟩

end Go.Proofs.YtdlemkmkheokkaaDoor
