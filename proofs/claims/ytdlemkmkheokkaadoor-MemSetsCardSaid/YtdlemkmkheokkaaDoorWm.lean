/- The contract of path.Nodes. PRINTED BY gen_walkn.py OUT OF ..Wk.lean, but for its head and its foot. -/
import Derived.Test.YtdlemkmkheokkaaDoorWl
namespace Go.Proofs.YtdlemkmkheokkaaDoor
open Go.RowKit

theorem blk_lt' {w : World} {g : Nat} {o : Obj} (h : w.heap[g]? = some o) : g < w.heap.size := (Array.getElem?_eq_some_iff.1 h).1

/-- what the closure has gathered -/
def CapN (bc B : Nat) (ns : List Int) (W : World) : Prop := ∃ v, W.heap[bc]? = some (.cells #[v] 62 (0, 0)) ∧ Ints W B v ns
theorem CapN.below {bc B : Nat} {ns : List Int} {W W' : World} (h : CapN bc B ns W) (k : Below W.heap.size W W') : CapN bc B ns W' := by
  obtain ⟨v, h1, h2⟩ := h
  exact ⟨v, by rw [k.block bc (blk_lt' h1)]; exact h1, h2.of fun g hg => k.block g (h2.lt g hg).2⟩
theorem CapN.drew {bc B : Nat} {ns : List Int} {W : World} (h : CapN bc B ns W) : CapN bc B ns W.drew := h
theorem CapN.setCell {bc B : Nat} {ns : List Int} {W : World} (h : CapN bc B ns W) (p : Addr) (u : Value) (h1 : p.block ≠ bc) (h2 : p.block < B) : CapN bc B ns (W.setCell p u) := by
  obtain ⟨v, e1, e2⟩ := h
  exact ⟨v, by rw [Below.heap_setCell _ _ _ _ (fun e => h1 e.symm)]; exact e1, e2.of fun g hg => Below.heap_setCell _ _ _ _ (by have := (e2.lt g hg).1; omega)⟩
theorem Only.step {X : Nat → Prop} {a b c : World} (h : Only X a b) (k : Below b.heap.size b c) : Only X a c := h.trans (Only.of_below X k)

def WayN (w : World) (bc : Nat) (R : WR) (e : Ending) (w' : World) : Prop := ∃ v, e = .returned v ∧ CapN bc (w.heap.size + 3) R.nodes w' ∧ Only (fun x => x = bc) w w'

theorem wayn_end {w W : World} {bc : Nat} {R : WR} {done rest : List Int} {v : Value} (hbc : bc < w.heap.size) (hR : done ++ rest = R.nodes) (h : CapN bc (w.heap.size + 3) done W) (ho : Only (fun x => x = bc) w W) (a b c : Value) (hn : rest = [] := by rfl) :
    WayN w bc R (.returned v) (((W.setCell ⟨w.heap.size + 1, 0, none⟩ a).setCell ⟨w.heap.size + 1, 1, none⟩ b).setCell ⟨w.heap.size + 1, 2, none⟩ c) := by
  subst hn
  rw [List.append_nil] at hR
  subst hR
  exact ⟨v, rfl, ((h.setCell _ _ (by simp; omega) (by simp)).setCell _ _ (by simp; omega) (by simp)).setCell _ _ (by simp; omega) (by simp),
    ((ho.setCell ⟨w.heap.size + 1, 0, none⟩ _ (.inr (by simp))).setCell ⟨w.heap.size + 1, 1, none⟩ _ (.inr (by simp))).setCell ⟨w.heap.size + 1, 2, none⟩ _ (.inr (by simp))⟩

theorem box_only {w W : World} {X : Nat → Prop} (h : Only X w W) (a b c d e : Value) :
    Only X w (((((W.setCell ⟨w.heap.size + 2, 0, none⟩ a).setCell ⟨w.heap.size + 2, 1, none⟩ b).setCell ⟨w.heap.size + 2, 2, none⟩ c).setCell ⟨w.heap.size + 2, 3, none⟩ d).setCell ⟨w.heap.size + 2, 4, none⟩ e) :=
  ((((h.setCell ⟨w.heap.size + 2, 0, none⟩ _ (.inr (by simp))).setCell ⟨w.heap.size + 2, 1, none⟩ _ (.inr (by simp))).setCell ⟨w.heap.size + 2, 2, none⟩ _ (.inr (by simp))).setCell ⟨w.heap.size + 2, 3, none⟩ _ (.inr (by simp))).setCell ⟨w.heap.size + 2, 4, none⟩ _ (.inr (by simp))
theorem box_cap {n bc : Nat} {ns : List Int} {W : World} (hbc : bc < n) (h : CapN bc (n + 3) ns W) (a b c d e : Value) :
    CapN bc (n + 3) ns (((((W.setCell ⟨n + 2, 0, none⟩ a).setCell ⟨n + 2, 1, none⟩ b).setCell ⟨n + 2, 2, none⟩ c).setCell ⟨n + 2, 3, none⟩ d).setCell ⟨n + 2, 4, none⟩ e) :=
  ((((h.setCell _ _ (by simp; omega) (by simp)).setCell _ _ (by simp; omega) (by simp)).setCell _ _ (by simp; omega) (by simp)).setCell _ _ (by simp; omega) (by simp)).setCell _ _ (by simp; omega) (by simp)

def WalkRelN (C : SC) (w : World) (bc : Nat) (R : WR) (a r t : Value) (wr : World) : Prop :=
  ∃ (k : K) (addr above : Int) (ro : Bool) (f : Nat) (done : List Int), a = .int .u32 addr ∧ r = .bool ro ∧ t = .int .u32 above ∧ 0 ≤ addr ∧ addr < 4294967296 ∧ 1 ≤ above ∧ above ≤ 5 ∧ above ≤ f ∧
    Only (fun x => x = bc) w wr ∧ Row wr (w.heap.size + 2) 5 k.cell ∧ Row wr (w.heap.size + 1) 3 (plCell 0 0 false) ∧ CapN bc (w.heap.size + 3) done wr ∧ done.length + f ≤ 5 ∧ done ++ (walkF C f k addr ro above).nodes = R.nodes

set_option maxHeartbeats 4000000 in
theorem walkn_any (S : SA) (C : SC) (k : K) (addr : Int) (bc : Nat) (w : World) (h : Sto w S C) (hbc : ¬ S.has bc) (hcap : w.heap[bc]? = some (.cells #[.slice none 0 0] 62 (0, 0))) (ha0 : 0 ≤ addr) (ha1 : addr < 4294967296) :
    Calls Tryd.prog 56 #[.pointer (some ⟨S.s, 0, none⟩), k.v, .int .u32 addr, .func (.func 68) #[] #[.pointer (some ⟨bc, 0, none⟩)]] w (WayN w bc (wayF C k addr)) := by
  have H := Lib.hid h
  have HBC := Lib.hid hbc
  have HCAP := Lib.hid hcap
  have lbc : bc < w.heap.size := blk_lt' hcap
  clear h hbc hcap
  obtain ⟨R, hR⟩ : ∃ R, R = wayF C k addr := ⟨_, rfl⟩
  rw [← hR]
  have HR := Lib.hid hR
  clear hR
  go_enter Tryd.func56, Tryd.ntmps56
  go_wp2
  go_loopw [2, 11, 12] (fun a r t wr => WalkRelN C w bc R a r t wr) (fun _ _ t _ => (intOf t).toNat)
  case atStart =>
    refine ⟨k, addr, 5, false, 5, [], rfl, rfl, rfl, ha0, ha1, by omega, by omega, by omega, ?_, ?_, ?_, ?_, by simp, ?_⟩
    · exact (((Only.refl _ _).alloc _).alloc _).alloc _
    · have := k.box ((w.alloc (.cells #[.int .i64 k.kind, .int .i64 k.id, .int .i64 k.ver, .int .i64 k.rights, .int .u32 k.data] 36)).alloc (.cells #[.int .i64 0, .int .i64 0, .bool false] 41)) 36
      simpa using this
    · have := (Row.new (w.alloc (.cells #[.int .i64 k.kind, .int .i64 k.id, .int .i64 k.ver, .int .i64 k.rights, .int .u32 k.data] 36)) #[.int .i64 0, .int .i64 0, .bool false] 41 3 (plCell 0 0 false) rfl
        (fun i hi => by rcases (by omega : i = 0 ∨ i = 1 ∨ i = 2) with rfl | rfl | rfl <;> rfl)).alloc (.cells #[.int .i64 k.kind, .int .i64 k.id, .int .i64 k.ver, .int .i64 k.rights, .int .u32 k.data] 36)
      simpa using this
    · exact ⟨_, by rw [Below.heap_alloc _ _ _ (by simp; omega), Below.heap_alloc _ _ _ (by simp; omega), Below.heap_alloc _ _ _ lbc]; exact HCAP.out, Ints.nil _ _⟩
    · rw [HR.out]; rfl
  case round =>
    clear HR
    obtain ⟨k, addr, above, ro, f, done, rfl, rfl, rfl, hb0, hb1, hb2, hb3, hb4, hbel, hk, hpl, hcp, hdf, hw⟩ := hrel
    obtain ⟨f, rfl⟩ : ∃ m, f = m + 1 := ⟨f - 1, by omega⟩
    obtain ⟨c0, c1, c2, c3, c4⟩ := K.facts hk
    have HS := Lib.hid (H.out.only hbel (fun x hx e => HBC.out (e ▸ hx)))
    have HC := Lib.hid hcp
    have HK := Lib.hid hk
    have HPL := Lib.hid hpl
    have HB := Lib.hid hbel
    have HW := Lib.hid hw
    have lt2 := hk.lt
    clear hbel hk hpl hw hcp
    by_cases hm : memB k = true
    · by_cases hl : liveS C k = true
      · have hml : (memB k && liveS C k) = true := by rw [hm, hl]; rfl
        have h04 : 0 ≤ heightF k ∧ heightF k ≤ 4 := by
          unfold heightF
          by_cases h3 : k.kind = 3
          · rw [if_pos h3]; omega
          · rw [if_neg h3]; obtain ⟨_, h5, h6, _⟩ := mem_node hml h3; omega
        obtain ⟨hh0, hh4⟩ := h04
        have MT := Lib.hid (show ∀ W, Calls Tryd.prog 60 #[k.v] W (BoolBelow W true) from fun W => by rw [← hm]; exact memory_any k W)
        have HT := Lib.hid (fun W => height_any k W)
        have HML := Lib.hid hml
        clear hml hm
        go_wp2_with (fail)
        go_at_call 60
        refine (MT.out _).mono ?_
        rintro e w1 ⟨rfl, hb1⟩
        have HB1 := Lib.hid hb1
        obtain ⟨d0, d1, d2, d3, d4⟩ := K.facts (HK.out.below hb1)
        have LT := Lib.hid (sto_live S C k w1 (HS.out.below hb1))
        rw [hl] at LT
        have HS1 := Lib.hid (HS.out.below hb1)
        have HK1 := Lib.hid (HK.out.below hb1)
        have HPL1 := Lib.hid (HPL.out.below hb1)
        have HC1 := Lib.hid (HC.out.below hb1)
        clear hb1 hl c0 c1 c2 c3 c4
        go_wp2_with (fail)
        go_at_call 81
        refine (LT.out).mono ?_
        rintro e w2 ⟨rfl, hb2⟩
        have HB2 := Lib.hid ((HB.out.step HB1.out).step hb2)
        have HC2 := Lib.hid (HC1.out.below hb2)
        obtain ⟨c0, c1, c2, c3, c4⟩ := K.facts (HK1.out.below hb2)
        have HS2 := Lib.hid (HS1.out.below hb2)
        have HK2 := Lib.hid (HK1.out.below hb2)
        have HPL2 := Lib.hid (HPL1.out.below hb2)
        clear hb2 d0 d1 d2 d3 d4 LT HS HK HPL HS1 HK1 HPL1 HB HB1 HC HC1
        go_wp2_with (fail)
        go_at_call 62
        refine (HT.out _).mono ?_
        rintro e w3 ⟨rfl, hb3⟩
        have HB3 := Lib.hid (HB2.out.step hb3)
        have HC3 := Lib.hid (HC2.out.below hb3)
        obtain ⟨d0, d1, d2, d3, d4⟩ := K.facts (HK2.out.below hb3)
        have HS3 := Lib.hid (HS2.out.below hb3)
        have HK3 := Lib.hid (HK2.out.below hb3)
        have HPL3 := Lib.hid (HPL2.out.below hb3)
        have lt3 := HK3.out.lt
        clear hb3 c0 c1 c2 c3 c4 HS2 HK2 HPL2 HB2 HC2
        by_cases hd : above ≤ heightF k
        · have hw := HW.out
          rw [walkF_depth HML.out hd] at hw
          have RR := Lib.hid hw
          obtain ⟨p0, p1, p2, q0, q1, q2⟩ := pl_facts HPL3.out
          clear hw HW
          go_wp2
          exact bodyPost_ret (v := .tuple #[.agg #[.int .i64 0, .int .i64 0, .bool false], .int .i64 5]) (by simp [results, Tryd.results56, go_sem, p0, p1, p2]) rfl (wayn_end lbc RR.out HC3.out (HB3.out) _ _ _)
        · have SZ := Lib.hid (fun W => size_any (heightF k) W hh0 hh4)
          by_cases hr : sizeF (heightF k) ≤ addr
          · have hw := HW.out
            rw [walkF_range HML.out hd hr] at hw
            have RR := Lib.hid hw
            obtain ⟨p0, p1, p2, q0, q1, q2⟩ := pl_facts HPL3.out
            clear hw HW
            go_wp2_with (go_at_call 61; refine (SZ.out _).mono ?_; rintro e w' ⟨rfl, rfl⟩)
            exact bodyPost_ret (v := .tuple #[.agg #[.int .i64 0, .int .i64 0, .bool false], .int .i64 3]) (by simp [results, Tryd.results56, go_sem, p0, p1, p2]) rfl (wayn_end lbc RR.out HC3.out (HB3.out) _ _ _)
          · by_cases h3 : k.kind = 3
            · have hw := HW.out
              rw [walkF_page HML.out hd hr h3] at hw
              have RR := Lib.hid hw
              obtain ⟨p0, p1, p2, q0, q1, q2⟩ := pl_facts HPL3.out
              have e3 : (k.kind == 3) = true := by simpa using h3
              clear hw HW h3
              cases ro
              · go_wp2_with (go_at_call 61; refine (SZ.out _).mono ?_; rintro e w' ⟨rfl, rfl⟩)
                exact bodyPost_ret (v := .tuple #[.agg #[.int .i64 k.id, .int .i64 addr, .bool (weakB k.rights)], .int .i64 0]) (by simp [results, Tryd.results56, go_sem, p0, p1, p2, weakB]) rfl (wayn_end lbc RR.out HC3.out (HB3.out) _ _ _)
              · go_wp2_with (go_at_call 61; refine (SZ.out _).mono ?_; rintro e w' ⟨rfl, rfl⟩)
                exact bodyPost_ret (v := .tuple #[.agg #[.int .i64 k.id, .int .i64 addr, .bool true], .int .i64 0]) (by simp [results, Tryd.results56, go_sem, p0, p1, p2]) rfl (wayn_end lbc RR.out HC3.out (HB3.out) _ _ _)
            · obtain ⟨h2, h5, h6, h7, h8, h9⟩ := mem_node HML.out h3
              have eh : heightF k = k.data := by simp [heightF, h3]
              have e3 : (k.kind == 3) = false := by simpa using h3
              have hh1 : 1 ≤ heightF k := by omega
              obtain ⟨part, hpart⟩ : ∃ part, part = sizeF (heightF k - 1) := ⟨_, rfl⟩
              have SZ1 := Lib.hid (show ∀ W, Calls Tryd.prog 61 #[.int .u32 (heightF k - 1)] W fun e w' => e = .returned (.int .u32 part) ∧ W = w' from fun W => by rw [hpart]; exact size_any (heightF k - 1) W (by omega) (by omega))
              have hp0 : 32 ≤ part := by rw [hpart]; exact (sizeF_pos _).1
              have hp1 : part ≤ 2097152 := by rw [hpart]; exact (sizeF_pos _).2
              have hsl : 0 ≤ addr / part ∧ addr / part < 16 := by rw [hpart, eh]; exact slot_lt addr k.data hb0 h5 h6 (by rw [← eh]; omega)
              obtain ⟨s0, s1⟩ := hsl
              have hmod : 0 ≤ addr % part ∧ addr % part < part := ⟨Int.emod_nonneg _ (by omega), Int.emod_lt_of_pos _ (by omega)⟩
              obtain ⟨m0, m1⟩ := hmod
              have hw := HW.out
              rw [walkF_node HML.out hd hr h3] at hw
              have HW2 := Lib.hid hw
              have HPART := Lib.hid hpart
              have EH := Lib.hid eh
              have GT := Lib.hid (fun W (hW : No W S.n C.nc C.na C.nk) => get_int S.n C.nc C.na C.nk k.id (addr / part) W hW (by have := HS3.out.n256; omega) h7 h8 h9 s0 s1)
              have x0 := HS3.out.p0
              have x1 := HS3.out.hd.lt
              clear hw HW hpart eh h2 h9 h3
              cases ro
              · go_wp2_with (fail)
                go_at_call 61
                refine (SZ.out _).mono ?_
                rintro e w' ⟨rfl, rfl⟩
                go_wp2_with (fail)
                go_at_call 68
                obtain ⟨cv, hc1, hc2⟩ := HC3.out
                refine (nodes1_any (w.heap.size + 3) bc 62 cv done k.id w3 hc1 hc2 (by omega) (by omega) (by omega)).mono ?_
                rintro e w5 ⟨cv', rfl, hc3, hc4, ho5⟩
                have lt5 := ho5.size
                have HK5 := Lib.hid (HK3.out.only ho5 (by omega))
                have HPL5 := Lib.hid (HPL3.out.only ho5 (by omega))
                have HS5 := Lib.hid (HS3.out.only ho5 (fun x hx e => by
                  rcases e with e | e
                  · exact HBC.out (e ▸ hx)
                  · have := H.out.lt x hx; omega))
                have HB5 := Lib.hid (only_then HB3.out ho5 (fun i hi e => by
                  rcases e with e | e
                  · exact e
                  · omega))
                have HC5 := Lib.hid (show CapN bc (w.heap.size + 3) (done ++ [k.id]) w5 from ⟨cv', hc3, hc4⟩)
                obtain ⟨g0, g1, g2, g3, g4⟩ := K.facts HK5.out
                have x5 := HS5.out.p0
                clear hc1 hc2 hc3 hc4 ho5 d0 d1 d2 d3 d4 x0
                go_wp2_with (fail)
                go_at_call 61
                refine (SZ1.out _).mono ?_
                rintro e w' ⟨rfl, rfl⟩
                go_wp2_with (fail)
                have EW := Lib.hid (show IntKind.i64.wrap (addr / part) = addr / part from IntWalk.i64_in _ (by omega))
                have HN3 := Lib.hid (show No w5.drew S.n C.nc C.na C.nk from HS5.out.no.same rfl)
                have HK3d := Lib.hid (show Row w5.drew (w.heap.size + 2) 5 k.cell from HK5.out.of_block rfl)
                go_region_with ((go_at_call 47; rw [EW.out]; refine (GT.out _ HN3.out).mono ?_; rintro e w4 ⟨rfl, hb4⟩; have HB4 := Lib.hid hb4; obtain ⟨y0, y1, y2, y3, y4⟩ := K.facts (HK3d.out.below hb4); have z0 := (HK3d.out.below hb4).frozen 0; have z1 := (HK3d.out.below hb4).frozen 1; have z2 := (HK3d.out.below hb4).frozen 2; have z3 := (HK3d.out.below hb4).frozen 3; have z4 := (HK3d.out.below hb4).frozen 4; clear hb4))
                all_goals
                  go_wp2
                  go_roundw
                  case rel =>
                    refine ⟨C.nk k.id.toNat (addr / part).toNat, addr % part, heightF k, weakB k.rights, f, done ++ [k.id], rfl, rfl, rfl, m0, by omega, hh1, by omega, by omega, ?_, ?_, ?_, ?_, by simp; omega, ?_⟩
                    · exact box_only (HB5.out.drew.step HB4.out) _ _ _ _ _
                    · exact box_set (HK3d.out.below HB4.out)
                    · exact ((((((HPL5.out.of_block rfl : Row w5.drew (w.heap.size + 1) 3 (plCell 0 0 false)).below HB4.out).setOther _ _ (by simp)).setOther _ _ (by simp)).setOther _ _ (by simp)).setOther _ _ (by simp)).setOther _ _ (by simp)
                    · exact box_cap (by omega) ((HC5.out.drew).below HB4.out) _ _ _ _ _
                    · have := HW2.out
                      rw [← EH.out, ← HPART.out] at this
                      rw [← this]
                      simp
                  case measure => simp [intOf]; omega
              · go_wp2_with (fail)
                go_at_call 61
                refine (SZ.out _).mono ?_
                rintro e w' ⟨rfl, rfl⟩
                go_wp2_with (fail)
                go_at_call 68
                obtain ⟨cv, hc1, hc2⟩ := HC3.out
                refine (nodes1_any (w.heap.size + 3) bc 62 cv done k.id w3 hc1 hc2 (by omega) (by omega) (by omega)).mono ?_
                rintro e w5 ⟨cv', rfl, hc3, hc4, ho5⟩
                have lt5 := ho5.size
                have HK5 := Lib.hid (HK3.out.only ho5 (by omega))
                have HPL5 := Lib.hid (HPL3.out.only ho5 (by omega))
                have HS5 := Lib.hid (HS3.out.only ho5 (fun x hx e => by
                  rcases e with e | e
                  · exact HBC.out (e ▸ hx)
                  · have := H.out.lt x hx; omega))
                have HB5 := Lib.hid (only_then HB3.out ho5 (fun i hi e => by
                  rcases e with e | e
                  · exact e
                  · omega))
                have HC5 := Lib.hid (show CapN bc (w.heap.size + 3) (done ++ [k.id]) w5 from ⟨cv', hc3, hc4⟩)
                obtain ⟨g0, g1, g2, g3, g4⟩ := K.facts HK5.out
                have x5 := HS5.out.p0
                clear hc1 hc2 hc3 hc4 ho5 d0 d1 d2 d3 d4 x0
                go_wp2_with (fail)
                go_at_call 61
                refine (SZ1.out _).mono ?_
                rintro e w' ⟨rfl, rfl⟩
                go_wp2_with (fail)
                have EW := Lib.hid (show IntKind.i64.wrap (addr / part) = addr / part from IntWalk.i64_in _ (by omega))
                have HN3 := Lib.hid (show No w5.drew S.n C.nc C.na C.nk from HS5.out.no.same rfl)
                have HK3d := Lib.hid (show Row w5.drew (w.heap.size + 2) 5 k.cell from HK5.out.of_block rfl)
                go_region_with ((go_at_call 47; rw [EW.out]; refine (GT.out _ HN3.out).mono ?_; rintro e w4 ⟨rfl, hb4⟩; have HB4 := Lib.hid hb4; obtain ⟨y0, y1, y2, y3, y4⟩ := K.facts (HK3d.out.below hb4); have z0 := (HK3d.out.below hb4).frozen 0; have z1 := (HK3d.out.below hb4).frozen 1; have z2 := (HK3d.out.below hb4).frozen 2; have z3 := (HK3d.out.below hb4).frozen 3; have z4 := (HK3d.out.below hb4).frozen 4; clear hb4))
                all_goals
                  go_wp2
                  go_roundw
                  case rel =>
                    refine ⟨C.nk k.id.toNat (addr / part).toNat, addr % part, heightF k, true, f, done ++ [k.id], rfl, rfl, rfl, m0, by omega, hh1, by omega, by omega, ?_, ?_, ?_, ?_, by simp; omega, ?_⟩
                    · exact box_only (HB5.out.drew.step HB4.out) _ _ _ _ _
                    · exact box_set (HK3d.out.below HB4.out)
                    · exact ((((((HPL5.out.of_block rfl : Row w5.drew (w.heap.size + 1) 3 (plCell 0 0 false)).below HB4.out).setOther _ _ (by simp)).setOther _ _ (by simp)).setOther _ _ (by simp)).setOther _ _ (by simp)).setOther _ _ (by simp)
                    · exact box_cap (by omega) ((HC5.out.drew).below HB4.out) _ _ _ _ _
                    · have := HW2.out
                      rw [← EH.out, ← HPART.out] at this
                      rw [← this]
                      simp
                  case measure => simp [intOf]; omega
      · have hl' : liveS C k = false := by simpa using hl
        have MT := Lib.hid (show ∀ W, Calls Tryd.prog 60 #[k.v] W (BoolBelow W true) from fun W => by rw [← hm]; exact memory_any k W)
        have e : walkF C (f + 1) k addr ro above = ⟨0, 0, false, 2, []⟩ := walkF_void (by rw [hl']; simp)
        have hw := HW.out
        rw [e] at hw
        have RR := Lib.hid hw
        clear e hw HW hm hl
        go_wp2_with (fail)
        go_at_call 60
        refine (MT.out _).mono ?_
        rintro e w1 ⟨rfl, hb1⟩
        have HB1 := Lib.hid hb1
        obtain ⟨d0, d1, d2, d3, d4⟩ := K.facts (HK.out.below hb1)
        have LT := Lib.hid (sto_live S C k w1 (HS.out.below hb1))
        rw [hl'] at LT
        clear hb1 hl'
        go_wp2_with (fail)
        go_at_call 81
        refine (LT.out).mono ?_
        rintro e w2 ⟨rfl, hb2⟩
        have HB2 := Lib.hid hb2
        obtain ⟨p0, p1, p2, q0, q1, q2⟩ := pl_facts ((HPL.out.below HB1.out).below hb2)
        have HC2 := Lib.hid ((HC.out.below HB1.out).below hb2)
        clear hb2
        go_wp2
        exact bodyPost_ret (v := .tuple #[.agg #[.int .i64 0, .int .i64 0, .bool false], .int .i64 2]) (by simp [results, Tryd.results56, go_sem, p0, p1, p2]) rfl (wayn_end lbc RR.out HC2.out ((HB.out.step HB1.out).step HB2.out) _ _ _)
    · have hm' : memB k = false := by simpa using hm
      have MT := Lib.hid (show ∀ W, Calls Tryd.prog 60 #[k.v] W (BoolBelow W false) from fun W => by rw [← hm']; exact memory_any k W)
      have e : walkF C (f + 1) k addr ro above = ⟨0, 0, false, 2, []⟩ := walkF_void (by rw [hm']; rfl)
      have hw := HW.out
      rw [e] at hw
      have RR := Lib.hid hw
      clear e hw HW hm hm'
      go_wp2_with (fail)
      go_at_call 60
      refine (MT.out _).mono ?_
      rintro e w1 ⟨rfl, hb1⟩
      have HB1 := Lib.hid hb1
      obtain ⟨p0, p1, p2, q0, q1, q2⟩ := pl_facts (HPL.out.below hb1)
      have HC2 := Lib.hid (HC.out.below hb1)
      clear hb1
      go_wp2
      exact bodyPost_ret (v := .tuple #[.agg #[.int .i64 0, .int .i64 0, .bool false], .int .i64 2]) (by simp [results, Tryd.results56, go_sem, p0, p1, p2]) rfl (wayn_end lbc RR.out HC2.out (HB.out.step HB1.out) _ _ _)

end Go.Proofs.YtdlemkmkheokkaaDoor
