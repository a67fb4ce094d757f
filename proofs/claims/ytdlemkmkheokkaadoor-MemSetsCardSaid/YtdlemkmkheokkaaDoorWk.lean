/- The contract of path.Walk. -/
import Derived.Test.YtdlemkmkheokkaaDoorMc
import Derived.Test.YtdlemkmkheokkaaDoorWd
namespace Go.Proofs.YtdlemkmkheokkaaDoor
open Go.RowKit

theorem walk1_any (id : Int) (w : World) : Calls Tryd.prog 57 #[.int .i64 id] w fun e w' => e = .returned (.tuple #[]) ∧ w = w' := by
  go_enter Tryd.func57, Tryd.ntmps57
  go_wp2
  go_end0
  exact ⟨rfl, rfl⟩

def WR.v (R : WR) : Value := .agg #[.int .i64 R.page, .int .i64 R.at_, .bool R.ro]
def WayP (w : World) (R : WR) (e : Ending) (w' : World) : Prop :=
  e = .returned (.tuple #[.agg #[.int .i64 R.page, .int .i64 R.at_, .bool R.ro], .int .i64 R.fault]) ∧ Below w.heap.size w w'
def WR.same (R R' : WR) : Prop := R.page = R'.page ∧ R.at_ = R'.at_ ∧ R.ro = R'.ro ∧ R.fault = R'.fault
def plCell (p : Int) (a : Int) (r : Bool) : Nat → Value
  | 0 => .int .i64 p
  | 1 => .int .i64 a
  | _ => .bool r

def WalkRel (C : SC) (w : World) (R : WR) (a r t : Value) (wr : World) : Prop :=
  ∃ (k : K) (addr above : Int) (ro : Bool) (f : Nat), a = .int .u32 addr ∧ r = .bool ro ∧ t = .int .u32 above ∧ 0 ≤ addr ∧ addr < 4294967296 ∧ 1 ≤ above ∧ above ≤ 5 ∧ above ≤ f ∧
    Below w.heap.size w wr ∧ Row wr (w.heap.size + 2) 5 k.cell ∧ Row wr (w.heap.size + 1) 3 (plCell 0 0 false) ∧ (walkF C f k addr ro above).same R

/-- the cells of a key's box -/
theorem K.facts {w : World} {b : Nat} {k : K} (h : Row w b 5 k.cell) : w.cell? ⟨b, 0, none⟩ = some (.int .i64 k.kind) ∧ w.cell? ⟨b, 1, none⟩ = some (.int .i64 k.id) ∧ w.cell? ⟨b, 2, none⟩ = some (.int .i64 k.ver) ∧ w.cell? ⟨b, 3, none⟩ = some (.int .i64 k.rights) ∧ w.cell? ⟨b, 4, none⟩ = some (.int .u32 k.data) :=
  ⟨h.cell 0 (by omega), h.cell 1 (by omega), h.cell 2 (by omega), h.cell 3 (by omega), h.cell 4 (by omega)⟩
theorem pl_facts {w : World} {b : Nat} {p a : Int} {r : Bool} (h : Row w b 3 (plCell p a r)) : w.cell? ⟨b, 0, none⟩ = some (.int .i64 p) ∧ w.cell? ⟨b, 1, none⟩ = some (.int .i64 a) ∧ w.cell? ⟨b, 2, none⟩ = some (.bool r) ∧ w.frozen? ⟨b, 0, none⟩ = false ∧ w.frozen? ⟨b, 1, none⟩ = false ∧ w.frozen? ⟨b, 2, none⟩ = false :=
  ⟨h.cell 0 (by omega), h.cell 1 (by omega), h.cell 2 (by omega), h.frozen 0, h.frozen 1, h.frozen 2⟩

theorem get_int (A : NA) (n : Nat) (c : AC) (nk : Nat → Nat → K) (id i : Int) (w : World) (h : No w A n c nk) (hn : n ≤ 1000) (h0 : 0 ≤ id) (hid : id < n) (hth : c.th id.toNat = true) (hi0 : 0 ≤ i) (hi : i < 16) :
    Calls Tryd.prog 47 #[.pointer (some ⟨A.b, 0, none⟩), .int .i64 id, .int .i64 i] w (GotK w (nk id.toNat i.toNat) true) := by
  obtain ⟨a, rfl⟩ := Int.eq_ofNat_of_zero_le h0
  obtain ⟨b, rfl⟩ := Int.eq_ofNat_of_zero_le hi0
  exact get_yes A n c nk a b w h hn (by omega) hth (by omega)

theorem box_set {W : World} {b : Nat} {k k' : K} (h : Row W b 5 k.cell) :
    Row (((((W.setCell ⟨b, 0, none⟩ (k'.cell 0)).setCell ⟨b, 1, none⟩ (k'.cell 1)).setCell ⟨b, 2, none⟩ (k'.cell 2)).setCell ⟨b, 3, none⟩ (k'.cell 3)).setCell ⟨b, 4, none⟩ (k'.cell 4)) b 5 k'.cell := by
  refine (((((h.set 0 _).set 1 _).set 2 _).set 3 _).set 4 _).congr fun i hi => ?_
  rcases (by omega : i = 0 ∨ i = 1 ∨ i = 2 ∨ i = 3 ∨ i = 4) with rfl | rfl | rfl | rfl | rfl <;> rfl
theorem box_below {w W : World} (h : Below w.heap.size w W) (a b c d e : Value) :
    Below w.heap.size w (((((W.setCell ⟨w.heap.size + 2, 0, none⟩ a).setCell ⟨w.heap.size + 2, 1, none⟩ b).setCell ⟨w.heap.size + 2, 2, none⟩ c).setCell ⟨w.heap.size + 2, 3, none⟩ d).setCell ⟨w.heap.size + 2, 4, none⟩ e) :=
  ((((h.setCell (p := ⟨w.heap.size + 2, 0, none⟩) (by simp) _).setCell (p := ⟨w.heap.size + 2, 1, none⟩) (by simp) _).setCell (p := ⟨w.heap.size + 2, 2, none⟩) (by simp) _).setCell (p := ⟨w.heap.size + 2, 3, none⟩) (by simp) _).setCell (p := ⟨w.heap.size + 2, 4, none⟩) (by simp) _

theorem place_below {w W : World} (h : Below w.heap.size w W) (a b c : Value) : Below w.heap.size w (((W.setCell ⟨w.heap.size + 1, 0, none⟩ a).setCell ⟨w.heap.size + 1, 1, none⟩ b).setCell ⟨w.heap.size + 1, 2, none⟩ c) :=
  ((h.setCell (p := ⟨w.heap.size + 1, 0, none⟩) (by simp) _).setCell (p := ⟨w.heap.size + 1, 1, none⟩) (by simp) _).setCell (p := ⟨w.heap.size + 1, 2, none⟩) (by simp) _

set_option maxHeartbeats 4000000 in
theorem walk_any (S : SA) (C : SC) (k : K) (addr : Int) (w : World) (h : Sto w S C) (ha0 : 0 ≤ addr) (ha1 : addr < 4294967296) :
    Calls Tryd.prog 56 #[.pointer (some ⟨S.s, 0, none⟩), k.v, .int .u32 addr, .func (.func 57) #[] #[]] w (WayP w (wayF C k addr)) := by
  have H := Lib.hid h
  clear h
  obtain ⟨R, hR⟩ : ∃ R, R = wayF C k addr := ⟨_, rfl⟩
  rw [← hR]
  have HR := Lib.hid hR
  clear hR
  go_enter Tryd.func56, Tryd.ntmps56
  go_wp2
  go_loopw [2, 11, 12] (fun a r t wr => WalkRel C w R a r t wr) (fun _ _ t _ => (intOf t).toNat)
  case atStart =>
    refine ⟨k, addr, 5, false, 5, rfl, rfl, rfl, ha0, ha1, by omega, by omega, by omega, ?_, ?_, ?_, ?_⟩
    · exact (((Below.refl _ _).alloc (Nat.le_refl _) _).alloc (by simp) _).alloc (by simp; omega) _
    · have := k.box ((w.alloc (.cells #[.int .i64 k.kind, .int .i64 k.id, .int .i64 k.ver, .int .i64 k.rights, .int .u32 k.data] 36)).alloc (.cells #[.int .i64 0, .int .i64 0, .bool false] 41)) 36
      simpa using this
    · have := (Row.new (w.alloc (.cells #[.int .i64 k.kind, .int .i64 k.id, .int .i64 k.ver, .int .i64 k.rights, .int .u32 k.data] 36)) #[.int .i64 0, .int .i64 0, .bool false] 41 3 (plCell 0 0 false) rfl
        (fun i hi => by rcases (by omega : i = 0 ∨ i = 1 ∨ i = 2) with rfl | rfl | rfl <;> rfl)).alloc (.cells #[.int .i64 k.kind, .int .i64 k.id, .int .i64 k.ver, .int .i64 k.rights, .int .u32 k.data] 36)
      simpa using this
    · rw [HR.out]; exact ⟨rfl, rfl, rfl, rfl⟩
  case round =>
    clear HR
    obtain ⟨k, addr, above, ro, f, rfl, rfl, rfl, hb0, hb1, hb2, hb3, hb4, hbel, hk, hpl, hw⟩ := hrel
    obtain ⟨f, rfl⟩ : ∃ m, f = m + 1 := ⟨f - 1, by omega⟩
    obtain ⟨c0, c1, c2, c3, c4⟩ := K.facts hk
    have HS := Lib.hid (H.out.below hbel)
    have HK := Lib.hid hk
    have HPL := Lib.hid hpl
    have HB := Lib.hid hbel
    have HW := Lib.hid hw
    have lt2 := hk.lt
    clear hbel hk hpl hw
    by_cases hm : memB k = true
    · by_cases hl : liveS C k = true
      · have hml : (memB k && liveS C k) = true := by rw [hm, hl]; rfl
        have h04 : 0 ≤ heightF k ∧ heightF k ≤ 4 := by
          unfold heightF
          by_cases h3 : k.kind = 3
          · rw [if_pos h3]; omega
          · rw [if_neg h3]; obtain ⟨_, h5, h6, _⟩ := mem_node hml h3; omega
        obtain ⟨hh0, hh4⟩ := h04
        have MT := Lib.hid (show ∀ W, Calls Tryd.prog 60 #[k.v] W (BoolBelow W true) from fun W => by rw [← hm]; exact memory_any k W)
        have HT := Lib.hid (fun W => height_any k W)
        have HML := Lib.hid hml
        clear hml hm
        go_wp2_with (fail)
        go_at_call 60
        refine (MT.out _).mono ?_
        rintro e w1 ⟨rfl, hb1⟩
        have HB1 := Lib.hid hb1
        obtain ⟨d0, d1, d2, d3, d4⟩ := K.facts (HK.out.below hb1)
        have LT := Lib.hid (sto_live S C k w1 (HS.out.below hb1))
        rw [hl] at LT
        have HS1 := Lib.hid (HS.out.below hb1)
        have HK1 := Lib.hid (HK.out.below hb1)
        have HPL1 := Lib.hid (HPL.out.below hb1)
        clear hb1 hl c0 c1 c2 c3 c4
        go_wp2_with (fail)
        go_at_call 81
        refine (LT.out).mono ?_
        rintro e w2 ⟨rfl, hb2⟩
        have HB2 := Lib.hid ((HB.out.trans (HB1.out.mono HB.out.size)).trans (hb2.mono (Nat.le_trans HB.out.size HB1.out.size)))
        obtain ⟨c0, c1, c2, c3, c4⟩ := K.facts (HK1.out.below hb2)
        have HS2 := Lib.hid (HS1.out.below hb2)
        have HK2 := Lib.hid (HK1.out.below hb2)
        have HPL2 := Lib.hid (HPL1.out.below hb2)
        clear hb2 d0 d1 d2 d3 d4 LT HS HK HPL HS1 HK1 HPL1 HB HB1
        go_wp2_with (fail)
        go_at_call 62
        refine (HT.out _).mono ?_
        rintro e w3 ⟨rfl, hb3⟩
        have HB3 := Lib.hid (HB2.out.trans (hb3.mono HB2.out.size))
        obtain ⟨d0, d1, d2, d3, d4⟩ := K.facts (HK2.out.below hb3)
        have HS3 := Lib.hid (HS2.out.below hb3)
        have HK3 := Lib.hid (HK2.out.below hb3)
        have HPL3 := Lib.hid (HPL2.out.below hb3)
        have lt3 := HK3.out.lt
        clear hb3 c0 c1 c2 c3 c4 HS2 HK2 HPL2 HB2
        by_cases hd : above ≤ heightF k
        · have hw := HW.out
          rw [walkF_depth HML.out hd] at hw
          have RR := Lib.hid hw
          obtain ⟨p0, p1, p2, q0, q1, q2⟩ := pl_facts HPL3.out
          clear hw HW
          go_wp2
          obtain ⟨R1, R2, R3, R4⟩ := RR.out
          dsimp only at R1 R2 R3 R4
          exact bodyPost_ret (v := .tuple #[.agg #[.int .i64 0, .int .i64 0, .bool false], .int .i64 5]) (by simp [results, Tryd.results56, go_sem, p0, p1, p2]) rfl ⟨by rw [← R1, ← R2, ← R3, ← R4], place_below HB3.out _ _ _⟩
        · have SZ := Lib.hid (fun W => size_any (heightF k) W hh0 hh4)
          by_cases hr : sizeF (heightF k) ≤ addr
          · have hw := HW.out
            rw [walkF_range HML.out hd hr] at hw
            have RR := Lib.hid hw
            obtain ⟨p0, p1, p2, q0, q1, q2⟩ := pl_facts HPL3.out
            clear hw HW
            go_wp2_with (go_at_call 61; refine (SZ.out _).mono ?_; rintro e w' ⟨rfl, rfl⟩)
            obtain ⟨R1, R2, R3, R4⟩ := RR.out
            dsimp only at R1 R2 R3 R4
            exact bodyPost_ret (v := .tuple #[.agg #[.int .i64 0, .int .i64 0, .bool false], .int .i64 3]) (by simp [results, Tryd.results56, go_sem, p0, p1, p2]) rfl ⟨by rw [← R1, ← R2, ← R3, ← R4], place_below HB3.out _ _ _⟩
          · by_cases h3 : k.kind = 3
            · have hw := HW.out
              rw [walkF_page HML.out hd hr h3] at hw
              have RR := Lib.hid hw
              obtain ⟨p0, p1, p2, q0, q1, q2⟩ := pl_facts HPL3.out
              have e3 : (k.kind == 3) = true := by simpa using h3
              clear hw HW h3
              cases ro
              · go_wp2_with (go_at_call 61; refine (SZ.out _).mono ?_; rintro e w' ⟨rfl, rfl⟩)
                obtain ⟨R1, R2, R3, R4⟩ := RR.out
                dsimp only at R1 R2 R3 R4
                exact bodyPost_ret (v := .tuple #[.agg #[.int .i64 k.id, .int .i64 addr, .bool (weakB k.rights)], .int .i64 0]) (by simp [results, Tryd.results56, go_sem, p0, p1, p2, weakB]) rfl ⟨by rw [← R1, ← R2, ← R3, ← R4]; rfl, place_below HB3.out _ _ _⟩
              · go_wp2_with (go_at_call 61; refine (SZ.out _).mono ?_; rintro e w' ⟨rfl, rfl⟩)
                obtain ⟨R1, R2, R3, R4⟩ := RR.out
                dsimp only at R1 R2 R3 R4
                exact bodyPost_ret (v := .tuple #[.agg #[.int .i64 k.id, .int .i64 addr, .bool true], .int .i64 0]) (by simp [results, Tryd.results56, go_sem, p0, p1, p2]) rfl ⟨by rw [← R1, ← R2, ← R3, ← R4]; rfl, place_below HB3.out _ _ _⟩
            · obtain ⟨h2, h5, h6, h7, h8, h9⟩ := mem_node HML.out h3
              have eh : heightF k = k.data := by simp [heightF, h3]
              have e3 : (k.kind == 3) = false := by simpa using h3
              have hh1 : 1 ≤ heightF k := by omega
              obtain ⟨part, hpart⟩ : ∃ part, part = sizeF (heightF k - 1) := ⟨_, rfl⟩
              have SZ1 := Lib.hid (show ∀ W, Calls Tryd.prog 61 #[.int .u32 (heightF k - 1)] W fun e w' => e = .returned (.int .u32 part) ∧ W = w' from fun W => by rw [hpart]; exact size_any (heightF k - 1) W (by omega) (by omega))
              have hp0 : 32 ≤ part := by rw [hpart]; exact (sizeF_pos _).1
              have hp1 : part ≤ 2097152 := by rw [hpart]; exact (sizeF_pos _).2
              have hsl : 0 ≤ addr / part ∧ addr / part < 16 := by rw [hpart, eh]; exact slot_lt addr k.data hb0 h5 h6 (by rw [← eh]; omega)
              obtain ⟨s0, s1⟩ := hsl
              have hmod : 0 ≤ addr % part ∧ addr % part < part := ⟨Int.emod_nonneg _ (by omega), Int.emod_lt_of_pos _ (by omega)⟩
              obtain ⟨m0, m1⟩ := hmod
              have hw := HW.out
              rw [walkF_node HML.out hd hr h3] at hw
              have HW2 := Lib.hid hw
              have HPART := Lib.hid hpart
              have EH := Lib.hid eh
              have GT := Lib.hid (fun W (hW : No W S.n C.nc C.na C.nk) => get_int S.n C.nc C.na C.nk k.id (addr / part) W hW (by have := HS3.out.n256; omega) h7 h8 h9 s0 s1)
              have x0 := HS3.out.p0
              have x1 := HS3.out.hd.lt
              clear hw HW hpart eh h2 h9 h3
              cases ro
              · go_wp2_with (fail)
                go_at_call 61
                refine (SZ.out _).mono ?_
                rintro e w' ⟨rfl, rfl⟩
                go_wp2_with (fail)
                go_at_call 57
                refine (walk1_any _ _).mono ?_
                rintro e w' ⟨rfl, rfl⟩
                go_wp2_with (fail)
                go_at_call 61
                refine (SZ1.out _).mono ?_
                rintro e w' ⟨rfl, rfl⟩
                go_wp2_with (fail)
                have EW := Lib.hid (show IntKind.i64.wrap (addr / part) = addr / part from IntWalk.i64_in _ (by omega))
                have HN3 := Lib.hid (show No w3.drew S.n C.nc C.na C.nk from HS3.out.no.same rfl)
                have HK3d := Lib.hid (show Row w3.drew (w.heap.size + 2) 5 k.cell from HK3.out.of_block rfl)
                go_region_with ((go_at_call 47; rw [EW.out]; refine (GT.out _ HN3.out).mono ?_; rintro e w4 ⟨rfl, hb4⟩; have HB4 := Lib.hid hb4; obtain ⟨y0, y1, y2, y3, y4⟩ := K.facts (HK3d.out.below hb4); have z0 := (HK3d.out.below hb4).frozen 0; have z1 := (HK3d.out.below hb4).frozen 1; have z2 := (HK3d.out.below hb4).frozen 2; have z3 := (HK3d.out.below hb4).frozen 3; have z4 := (HK3d.out.below hb4).frozen 4; clear hb4))
                all_goals
                  go_wp2
                  go_roundw
                  case rel =>
                    refine ⟨C.nk k.id.toNat (addr / part).toNat, addr % part, heightF k, weakB k.rights, f, rfl, rfl, rfl, m0, by omega, hh1, by omega, by omega, ?_, ?_, ?_, ?_⟩
                    · exact box_below (HB3.out.drew.trans (HB4.out.mono HB3.out.size)) _ _ _ _ _
                    · exact box_set (HK3d.out.below HB4.out)
                    · exact ((((((HPL3.out.of_block rfl : Row w3.drew (w.heap.size + 1) 3 (plCell 0 0 false)).below HB4.out).setOther _ _ (by simp)).setOther _ _ (by simp)).setOther _ _ (by simp)).setOther _ _ (by simp)).setOther _ _ (by simp)
                    · have := HW2.out
                      rw [← EH.out, ← HPART.out] at this
                      exact this
                  case measure => simp [intOf]; omega
              · go_wp2_with (fail)
                go_at_call 61
                refine (SZ.out _).mono ?_
                rintro e w' ⟨rfl, rfl⟩
                go_wp2_with (fail)
                go_at_call 57
                refine (walk1_any _ _).mono ?_
                rintro e w' ⟨rfl, rfl⟩
                go_wp2_with (fail)
                go_at_call 61
                refine (SZ1.out _).mono ?_
                rintro e w' ⟨rfl, rfl⟩
                go_wp2_with (fail)
                have EW := Lib.hid (show IntKind.i64.wrap (addr / part) = addr / part from IntWalk.i64_in _ (by omega))
                have HN3 := Lib.hid (show No w3.drew S.n C.nc C.na C.nk from HS3.out.no.same rfl)
                have HK3d := Lib.hid (show Row w3.drew (w.heap.size + 2) 5 k.cell from HK3.out.of_block rfl)
                go_region_with ((go_at_call 47; rw [EW.out]; refine (GT.out _ HN3.out).mono ?_; rintro e w4 ⟨rfl, hb4⟩; have HB4 := Lib.hid hb4; obtain ⟨y0, y1, y2, y3, y4⟩ := K.facts (HK3d.out.below hb4); have z0 := (HK3d.out.below hb4).frozen 0; have z1 := (HK3d.out.below hb4).frozen 1; have z2 := (HK3d.out.below hb4).frozen 2; have z3 := (HK3d.out.below hb4).frozen 3; have z4 := (HK3d.out.below hb4).frozen 4; clear hb4))
                all_goals
                  go_wp2
                  go_roundw
                  case rel =>
                    refine ⟨C.nk k.id.toNat (addr / part).toNat, addr % part, heightF k, true, f, rfl, rfl, rfl, m0, by omega, hh1, by omega, by omega, ?_, ?_, ?_, ?_⟩
                    · exact box_below (HB3.out.drew.trans (HB4.out.mono HB3.out.size)) _ _ _ _ _
                    · exact box_set (HK3d.out.below HB4.out)
                    · exact ((((((HPL3.out.of_block rfl : Row w3.drew (w.heap.size + 1) 3 (plCell 0 0 false)).below HB4.out).setOther _ _ (by simp)).setOther _ _ (by simp)).setOther _ _ (by simp)).setOther _ _ (by simp)).setOther _ _ (by simp)
                    · have := HW2.out
                      rw [← EH.out, ← HPART.out] at this
                      exact this
                  case measure => simp [intOf]; omega
      · have hl' : liveS C k = false := by simpa using hl
        have MT := Lib.hid (show ∀ W, Calls Tryd.prog 60 #[k.v] W (BoolBelow W true) from fun W => by rw [← hm]; exact memory_any k W)
        have e : walkF C (f + 1) k addr ro above = ⟨0, 0, false, 2, []⟩ := walkF_void (by rw [hl']; simp)
        have hw := HW.out
        rw [e] at hw
        obtain ⟨R1, R2, R3, R4⟩ := hw
        dsimp only at R1 R2 R3 R4
        have RR := Lib.hid (And.intro R1 (And.intro R2 (And.intro R3 R4)))
        clear e R1 R2 R3 R4 HW hm hl
        go_wp2_with (fail)
        go_at_call 60
        refine (MT.out _).mono ?_
        rintro e w1 ⟨rfl, hb1⟩
        have HB1 := Lib.hid hb1
        obtain ⟨d0, d1, d2, d3, d4⟩ := K.facts (HK.out.below hb1)
        have LT := Lib.hid (sto_live S C k w1 (HS.out.below hb1))
        rw [hl'] at LT
        clear hb1 hl'
        go_wp2_with (fail)
        go_at_call 81
        refine (LT.out).mono ?_
        rintro e w2 ⟨rfl, hb2⟩
        have HB2 := Lib.hid hb2
        obtain ⟨p0, p1, p2, q0, q1, q2⟩ := pl_facts ((HPL.out.below HB1.out).below hb2)
        clear hb2
        go_wp2
        obtain ⟨R1, R2, R3, R4⟩ := RR.out
        exact bodyPost_ret (v := .tuple #[.agg #[.int .i64 0, .int .i64 0, .bool false], .int .i64 2]) (by simp [results, Tryd.results56, go_sem, p0, p1, p2]) rfl ⟨by rw [← R1, ← R2, ← R3, ← R4], place_below ((HB.out.trans (HB1.out.mono HB.out.size)).trans (HB2.out.mono (Nat.le_trans HB.out.size HB1.out.size))) _ _ _⟩
    · have hm' : memB k = false := by simpa using hm
      have MT := Lib.hid (show ∀ W, Calls Tryd.prog 60 #[k.v] W (BoolBelow W false) from fun W => by rw [← hm']; exact memory_any k W)
      have e : walkF C (f + 1) k addr ro above = ⟨0, 0, false, 2, []⟩ := walkF_void (by rw [hm']; rfl)
      have hw := HW.out
      rw [e] at hw
      obtain ⟨R1, R2, R3, R4⟩ := hw
      dsimp only at R1 R2 R3 R4
      have RR := Lib.hid (And.intro R1 (And.intro R2 (And.intro R3 R4)))
      clear e R1 R2 R3 R4 HW hm hm'
      go_wp2_with (fail)
      go_at_call 60
      refine (MT.out _).mono ?_
      rintro e w1 ⟨rfl, hb1⟩
      have HB1 := Lib.hid hb1
      obtain ⟨p0, p1, p2, q0, q1, q2⟩ := pl_facts (HPL.out.below hb1)
      clear hb1
      go_wp2
      obtain ⟨R1, R2, R3, R4⟩ := RR.out
      exact bodyPost_ret (v := .tuple #[.agg #[.int .i64 0, .int .i64 0, .bool false], .int .i64 2]) (by simp [results, Tryd.results56, go_sem, p0, p1, p2]) rfl ⟨by rw [← R1, ← R2, ← R3, ← R4], place_below (HB.out.trans (HB1.out.mono HB.out.size)) _ _ _⟩

end Go.Proofs.YtdlemkmkheokkaaDoor
