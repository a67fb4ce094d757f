/- The contract of cache.Find: the walk. -/
import Derived.Test.YtdlemkmkheokkaaDoorCf
import Derived.Test.YtdlemkmkheokkaaDoorCe
import Derived.Deep.AppendLies
import Derived.Deep.DeepCutAuto
namespace Go.Proofs.YtdlemkmkheokkaaDoor
open Go.RowKit

theorem Ca.own_ne_cb {W : World} {cb lo : Nat} {size hits : Int} {l : Value} {ws : List (CW × Value)} (h : Ca W cb lo size hits l ws) : l.ownBlock ≠ some cb := fun e => by
  have := World.ownsRow.lt h.row cb e
  have := h.lt
  omega
/-- the answer's box is written -/
theorem Ca.box3 {W W' : World} {cb lo b pb : Nat} {size hits : Int} {l : Value} {ws : List (CW × Value)} (h : Ca W cb lo size hits l ws) (hl : ∀ g, l.ownBlock = some g → g ≠ b ∧ g ≠ b + 1 ∧ g ≠ pb) (hc : cb < b) (_hb : b + 1 < W.heap.size)
    (hn : ∀ p ∈ ws, ∀ g, p.2.ownBlock = some g → g ≠ b + 1) (hz : W.heap.size ≤ W'.heap.size) (e : ∀ x, x < W.heap.size → ¬ x = b + 1 → W'.heap[x]? = W.heap[x]?) : Ca W' cb lo size hits l ws := by
  have lh := h.hd.lt
  refine ⟨h.hd.of_block (e cb lh (by omega)), ownsRow_same h.row (fun g hg => e g (World.ownsRow.lt h.row g hg).2 (hl g hg).2.1), fun p hp => (h.ns p hp).of (fun g hg => e g ((h.ns p hp).lt g hg).2 (hn p hp g hg)), h.ne, h.lt, Nat.le_trans h.le hz⟩

set_option maxRecDepth 100000 in
set_option maxHeartbeats 4000000 in
theorem cache_find (S : SA) (C : SC) (cb lo : Nat) (size hits : Int) (l : Value) (ws : List (CW × Value)) (k : K) (addr : Int) (w : World) (hs : Sto w S C) (hS : ∀ x, S.has x → x < cb) (hc : Ca w cb lo size hits l ws)
    (ha0 : 0 ≤ addr) (ha1 : addr < 4294967296) (hsz0 : 1 ≤ size) (hsz : size ≤ 64) (hlen : ws.length ≤ 64) (hh : hits ≤ 1000) (hh0 : 0 ≤ hits) :
    Calls Tryd.prog 40 #[.pointer (some ⟨cb, 0, none⟩), .pointer (some ⟨S.s, 0, none⟩), k.v, .int .u32 addr] w (FindP w cb lo size hits l ws (findF C size (ws.map (·.1)) k addr)) := by
  have lc := hc.hd.lt
  have hL : Hid (∀ x, l.ownBlock = some x → cb < x ∧ x < w.heap.size) := fun x hx => ⟨Nat.lt_of_lt_of_le hc.lt (World.ownsRow.lt hc.row x hx).1, (World.ownsRow.lt hc.row x hx).2⟩
  have HSS := Lib.hid hS
  have c1 := hc.c1
  have HS := Lib.hid hs
  have HC := Lib.hid hc
  obtain ⟨A, cap, rfl, hA⟩ := hc.arr
  have HA := Lib.hid hA
  clear hs hc hA hS
  have I0 : Hid (FdI w k ((w.alloc (.cells #[.int .i64 k.kind, .int .i64 k.id, .int .i64 k.ver, .int .i64 k.rights, .int .u32 k.data] 36)).alloc (.cells #[.int .i64 0, .int .i64 0, .bool false] 41))) := by
    refine ⟨((Below.refl _ w).alloc (Nat.le_refl _) _).alloc (by simp) _, (k.box w 36).alloc _, ?_⟩
    have := pl_new (w.alloc (.cells #[.int .i64 k.kind, .int .i64 k.id, .int .i64 k.ver, .int .i64 k.rights, .int .u32 k.data] 36))
    simpa using this
  go_enter Tryd.func40, Tryd.ntmps40
  go_wp2
  go_loopw [26] (fun t wr => ∃ i : Nat, i ≤ ws.length ∧ t = .int .i64 i ∧ (∀ j c v, j < i → ws[j]? = some (c, v) → hitB k (addr / 32) c = false) ∧ Hid (FdI w k wr)) (fun t _ => ws.length - (intOf t).toNat)
  case atStart => exact ⟨0, by omega, rfl, fun j c v h => absurd h (Nat.not_lt_zero j), I0⟩
  case round =>
    clear I0
    obtain ⟨i, hi, rfl, hno, I⟩ := hrel
    have HNO := Lib.hid hno
    clear hno
    by_cases hil : i < ws.length
    · obtain ⟨⟨c, v⟩, hcv⟩ : ∃ p, ws[i]? = some p := ⟨ws[i], List.getElem?_eq_getElem hil⟩
      obtain ⟨g, rfl, hg0, hg1⟩ := HA.out (by rintro rfl; simp at hil)
      have hvs : ∃ B cv, v = .slice B c.ns.length cv := (HC.out.ns (c, v) (List.mem_of_getElem? hcv)).arr
      obtain ⟨B, cv, rfl⟩ := hvs
      have HCV := Lib.hid hcv
      have HCr := Lib.hid (HC.out.below I.out.bel)
      obtain ⟨y0, y1, y2, y3, y4, y5, y6, y7, y8, y9⟩ := HCr.out.way i c _ hcv
      obtain ⟨k0, k1, k2, k3, k4⟩ := K.facts I.out.rk
      have lk := I.out.rk.lt
      have lz := I.out.bel.size
      have hb : decide ((i : Int) < (ws.length : Int)) = true := by simp; omega
      clear hcv
      by_cases hpg : c.pg = addr / 32
      · have hpb : (c.pg == addr / 32) = true := by simpa using hpg
        have I1 := Lib.hid (I.out.below ((Below.refl _ wr).alloc (Nat.le_refl _) (.cells #[.int .i64 c.k.kind, .int .i64 c.k.id, .int .i64 c.k.ver, .int .i64 c.k.rights, .int .u32 c.k.data, .int .u32 c.pg, .slice B c.ns.length cv, .int .i64 c.page, .int .i64 c.at_, .bool c.ro] 123)))
        have SM := Lib.hid (fun W => same_any c.k k W)
        go_wp2_with (fail)
        go_at_call 69
        refine (SM.out _).mono ?_
        rintro e w5 ⟨rfl, hb5⟩
        rw [← hpg] at hb5
        have I5 := Lib.hid (I1.out.below hb5)
        have WB := Lib.hid ((way_new wr c (.slice B c.ns.length cv)).below hb5)
        clear hb5 SM I1 y0 y1 y2 y3 y4 y5 y6 y7 y8 y9 k0 k1 k2 k3 k4 lk
        by_cases hk : eqK c.k k = true
        · rw [hk]
          have HC5 := Lib.hid (HC.out.below I5.out.bel)
          have c2 := HC5.out.c2
          have fc2 := HC5.out.hd.frozen 2
          have lc5 := HC5.out.hd.lt
          have x7 := WB.out.cell 7 (by omega)
          have x8 := WB.out.cell 8 (by omega)
          have x9 := WB.out.cell 9 (by omega)
          have lx := WB.out.lt
          simp only [wayCell] at x7 x8 x9
          obtain ⟨p0, p1, p2, q0, q1, q2⟩ := pl_facts I5.out.rp
          have lp := I5.out.rp.lt
          go_wp2
          have hf : findF C size (ws.map (·.1)) k addr = (⟨c.page, addr % 32, c.ro, 0⟩, true, ws.map (·.1)) := by
            unfold findF
            rw [find_hit (hitB k (addr / 32)) ws i c _ HNO.out HCV.out (by simp [hitB, hpg, hk])]
          rw [hf]
          have O := (((((Only.of_below (fun x => x = cb ∨ w.heap.size ≤ x) I5.out.bel).setCell ⟨cb, 2, none⟩ (.int .i64 (hits + 1)) (.inl (.inl rfl))).setCell ⟨w.heap.size + 1, 0, none⟩ (.int .i64 c.page) (.inr (by simp))).setCell ⟨w.heap.size + 1, 1, none⟩ (.int .i64 (addr % 32)) (.inr (by simp))).setCell ⟨w.heap.size + 1, 2, none⟩ (.bool c.ro) (.inr (by simp))).alloc (.cells #[.int .i64 c.page, .int .i64 (addr % 32), .bool c.ro] 41)
          have nb : cb ≠ w.heap.size + 1 := by omega
          have HD := ((((HC5.out.hd.set 2 (.int .i64 (hits + 1))).setOther ⟨w.heap.size + 1, 0, none⟩ (.int .i64 c.page) nb).setOther ⟨w.heap.size + 1, 1, none⟩ (.int .i64 (addr % 32)) nb).setOther ⟨w.heap.size + 1, 2, none⟩ (.bool c.ro) nb).alloc (.cells #[.int .i64 c.page, .int .i64 (addr % 32), .bool c.ro] 41)
          have RP := (((((I5.out.rp.setOther ⟨cb, 2, none⟩ (.int .i64 (hits + 1)) (Ne.symm nb)).set 0 (.int .i64 c.page)).set 1 (.int .i64 (addr % 32))).set 2 (.bool c.ro)).alloc (.cells #[.int .i64 c.page, .int .i64 (addr % 32), .bool c.ro] 41)).congr (g := plCell c.page (addr % 32) c.ro) (fun j hj => by rcases (by omega : j = 0 ∨ j = 1 ∨ j = 2) with rfl | rfl | rfl <;> rfl)
          obtain ⟨m0, m1, m2, -, -, -⟩ := pl_facts RP
          clear p0 p1 p2 q0 q1 q2 x7 x8 x9 c2 fc2 RP
          refine bodyPost_ret (v := .tuple #[.agg #[.int .i64 c.page, .int .i64 (addr % 32), .bool c.ro], .int .i64 0]) (by simp only [results, Tryd.results40, go_sem]; simp [go_sem, m0, m1, m2]) rfl ⟨_, ws, rfl, rfl, HC.out.moved (HD.congr fun j hj => by rcases (by omega : j = 0 ∨ j = 1 ∨ j = 2) with rfl | rfl | rfl <;> rfl) (fun x h1 h2 => O.block x h2 (by omega)) O.size, O.mono (fun x _ hx => by rcases hx with hx | hx; exact .inl hx; omega), fun g hg => .inl hg, fun p hp => .inl hp⟩
        · have hk2 : eqK c.k k = false := by simpa using hk
          rw [hk2]
          go_wp2
          go_roundw
          case rel => exact ⟨i + 1, by omega, by go_num, fun j c' v' hj hc' => by
            by_cases e : j = i
            · subst e
              have := HCV.out.symm.trans hc'
              simp at this
              obtain ⟨rfl, rfl⟩ := this
              simp [hitB, hk2]
            · exact HNO.out j c' v' (by omega) hc', I5⟩
          case measure => simp [intOf]; omega
      · have hpb : (c.pg == addr / 32) = false := by simpa using hpg
        have I2 := Lib.hid (I.out.below ((Below.refl _ wr).alloc (Nat.le_refl _) (.cells #[.int .i64 c.k.kind, .int .i64 c.k.id, .int .i64 c.k.ver, .int .i64 c.k.rights, .int .u32 c.k.data, .int .u32 c.pg, .slice B c.ns.length cv, .int .i64 c.page, .int .i64 c.at_, .bool c.ro] 123)))
        go_wp2
        go_roundw
        case rel => exact ⟨i + 1, by omega, by go_num, fun j c' v' hj hc' => by
          by_cases e : j = i
          · subst e
            have := HCV.out.symm.trans hc'
            simp at this
            obtain ⟨rfl, rfl⟩ := this
            simp [hitB, hpb]
          · exact HNO.out j c' v' (by omega) hc', I2⟩
        case measure => simp [intOf]; omega
    · obtain rfl : i = ws.length := by omega
      have hb : decide ((ws.length : Int) < (ws.length : Int)) = false := by simp
      obtain ⟨k0, k1, k2, k3, k4⟩ := K.facts I.out.rk
      have lk := I.out.rk.lt
      obtain ⟨P, hP⟩ : ∃ P, P = wayF C k addr := ⟨_, rfl⟩
      have hf : findF C size (ws.map (·.1)) k addr = if P.fault = 0 then (⟨P.page, P.at_, P.ro, 0⟩, false, roomF size (ws.map (·.1)) ++ [⟨k, addr / 32, P.nodes, P.page, P.at_, P.ro⟩]) else (⟨0, 0, false, P.fault⟩, false, ws.map (·.1)) := by
        unfold findF
        rw [find_miss (hitB k (addr / 32)) ws HNO.out, ← hP]
      have HF := Lib.hid hf
      have WY := Lib.hid (fun W (hW : Sto W S C) => show Calls Tryd.prog 23 #[.pointer (some ⟨S.s, 0, none⟩), k.v, .int .u32 addr] W (WayP W P) from hP ▸ way_any S C k addr W hW ha0 ha1)
      have NY := Lib.hid (fun W (hW : Sto W S C) => show Calls Tryd.prog 36 #[.pointer (some ⟨S.s, 0, none⟩), k.v, .int .u32 addr] W (NodesP W P) from hP ▸ nodes_any S C k addr W hW ha0 ha1)
      clear hP hf
      go_wp2_with (fail)
      go_at_call 23
      refine (WY.out _ (HS.out.below I.out.bel)).mono ?_
      rintro e w5 ⟨rfl, hb5⟩
      have I5 := Lib.hid (I.out.below hb5)
      clear hb5 k0 k1 k2 k3 k4 lk WY I
      by_cases hpf : P.fault = 0
      · rw [hpf]
        have HF2 := Lib.hid (show findF C size (ws.map (·.1)) k addr = (⟨P.page, P.at_, P.ro, 0⟩, false, roomF size (ws.map (·.1)) ++ [⟨k, addr / 32, P.nodes, P.page, P.at_, P.ro⟩]) by rw [HF.out, if_pos hpf])
        clear HF
        have HC5 := Lib.hid (HC.out.below I5.out.bel)
        have c0 := HC5.out.c0
        have c15 := HC5.out.c1
        have lc5 := HC5.out.hd.lt
        have PL := Lib.hid (pl_made w5 P.page P.at_ P.ro)
        by_cases hfull : size ≤ ws.length
        · have hfb : decide (size ≤ (ws.length : Int)) = true := by simpa using hfull
          obtain ⟨g, rfl, hg0, hg1⟩ := HA.out (by rintro rfl; simp at hfull; omega)
          obtain ⟨ws1, hws1⟩ : ∃ x, x = ws.tail := ⟨_, rfl⟩
          have HM : Hid (ws.length = ws1.length + 1) := by show ws.length = ws1.length + 1; rw [hws1, List.length_tail]; omega
          have HW1 := Lib.hid hws1
          clear hws1
          go_wp2_with (fail)
          go_quiet (fail)
          obtain ⟨wq, hwq⟩ : ∃ wq, wq = (w5.alloc (.cells #[.int .i64 P.page, .int .i64 P.at_, .bool P.ro] 41)).drewN nq := ⟨_, rfl⟩
          rw [← hwq]
          have BX : Below w5.heap.size w5 wq := by rw [hwq]; exact below_drewN ((Below.refl _ w5).alloc (Nat.le_refl _) _) _
          have IQ := Lib.hid (I5.out.below BX)
          have PQ := Lib.hid (show Row wq w5.heap.size 3 (plCell P.page P.at_ P.ro) by rw [hwq]; exact PL.out.below (below_drewN (Below.refl _ _) _))
          have HCQ := Lib.hid (HC5.out.below BX)
          clear hwq BX PL c0 c15 lc5
          have c1q := HCQ.out.c1
          have DL := Lib.hid (del_first ws.length HM.out HCQ.out.row (by have := HM.out; omega) HCQ.out.ones)
          go_wp2_with (fail)
          go_at_call 70
          refine (DL.out).mono ?_
          rintro e w6 ⟨rfl, hown, ho⟩
          have c16 := (HCQ.out.hd.only ho (by have := hL.out g rfl; omega)).cell 1 (by omega)
          have f16 := (HCQ.out.hd.only ho (by have := hL.out g rfl; omega)).frozen 1
          simp only [caCell] at c16
          have G6 := Lib.hid (HCQ.out.gone HM.out hown ho)
          have HO := Lib.hid ho
          clear DL hown ho c1q
          go_wp2_with (fail)
          obtain ⟨wx, hwx⟩ : ∃ wx, wx = w6.setCell ⟨cb, 1, none⟩ (.slice (some ⟨g, 0, none⟩) ws1.length cap) := ⟨_, rfl⟩
          rw [← hwx]
          have OX : Hid (Only (fun x => x = cb ∨ x = g) wq wx) := by rw [hwx]; exact (HO.out.mono (fun x _ e => .inr e)).setCell ⟨cb, 1, none⟩ _ (.inl (.inl rfl))
          have TX : Hid (FdT w cb lo size hits (.slice (some ⟨g, 0, none⟩) ws.length cap) (.slice (some ⟨g, 0, none⟩) ws1.length cap) ws1 k P w5.heap.size wx) := by
            have lg := hL.out g rfl
            have lq := IQ.out.rp.lt
            have l5 := I5.out.rp.lt
            refine ⟨only_then (Only.of_below _ IQ.out.bel) OX.out (fun i _ e => ?_), IQ.out.rk.only OX.out (by omega), IQ.out.rp.only OX.out (by omega), PQ.out.only OX.out (by omega), by rw [hwx]; have := G6.out; rwa [← HW1.out] at this, fun x hx => .inl hx, fun x hx => ?_, fun p hp x hx => by have := ((HC.out.ns p (List.mem_of_mem_tail (by rw [← HW1.out]; exact hp))).lt x hx).2; omega, lc, by omega⟩
            · rcases e with e | e
              · exact .inl e
              · exact .inr (by rw [e]; rfl)
            · have e2 : g = x := by simpa [Value.ownBlock] using hx
              exact ⟨by omega, by omega, by omega⟩
          have HR := Lib.hid (show ws1.map (·.1) = roomF size (ws.map (·.1)) by unfold roomF; rw [if_pos (by simpa using hfull), HW1.out, List.map_tail])
          have hlen1 : ws1.length ≤ 64 := by have := HM.out; omega
          clear hwx OX HO G6 IQ PQ HCQ c16 f16
          obtain ⟨k0, k1, k2, k3, k4⟩ := K.facts TX.out.rk
          obtain ⟨x0, x1, x2, -, -, -⟩ := pl_facts TX.out.px
          have c1x := TX.out.ca.c1
          have lkx := TX.out.rk.lt
          obtain ⟨i0, hi0, hz0, hz1, hz2⟩ := info_parts info123
          refine wp_region_Z (fun W => W.cell? ⟨cb, 1, none⟩ = some (.slice (some ⟨g, 0, none⟩) ws1.length cap) ∧ W.cell? ⟨w.heap.size, 0, none⟩ = some (.int .i64 k.kind) ∧ W.cell? ⟨w.heap.size, 1, none⟩ = some (.int .i64 k.id) ∧ W.cell? ⟨w.heap.size, 2, none⟩ = some (.int .i64 k.ver) ∧ W.cell? ⟨w.heap.size, 3, none⟩ = some (.int .i64 k.rights) ∧ W.cell? ⟨w.heap.size, 4, none⟩ = some (.int .u32 k.data) ∧ W.cell? ⟨w5.heap.size, 0, none⟩ = some (.int .i64 P.page) ∧ W.cell? ⟨w5.heap.size, 1, none⟩ = some (.int .i64 P.at_) ∧ W.cell? ⟨w5.heap.size, 2, none⟩ = some (.bool P.ro)) 17 (by kernel_rfl) ?_
          refine wpZ_take (i := 0) (v := .pointer (some ⟨cb, 0, none⟩)) [15, 16, 17] rfl rfl (by kernel_rfl) (by kernel_rfl) (by kernel_rfl) (by kernel_rfl) (fun _ _ _ h => h) (by rfl) ⟨c1x, k0, k1, k2, k3, k4, x0, x1, x2⟩ ?_ ?_
          · intro W hW
            (try dsimp only at hW)
            go_simp
          try simp only [Act.put, List.getElem_toArray, List.getElem_cons_zero, List.setIfInBounds_toArray, List.set_cons_zero, List.set_cons_succ]
          refine wpZ_take (i := 1) (v := .pointer (some ⟨cb, 0, none⟩)) [2, 3, 4, 14, 17] rfl rfl (by kernel_rfl) (by kernel_rfl) (by kernel_rfl) (by kernel_rfl) (fun _ _ _ h => h) (by rfl) ⟨c1x, k0, k1, k2, k3, k4, x0, x1, x2⟩ ?_ ?_
          · intro W hW
            (try dsimp only at hW)
            go_simp
          try simp only [Act.put, List.getElem_toArray, List.getElem_cons_succ, List.getElem_cons_zero, List.setIfInBounds_toArray, List.set_cons_zero, List.set_cons_succ]
          refine wpZ_take (i := 2) (v := .pointer (some ⟨cb, 0, none⟩)) [3, 4, 14, 17] rfl rfl (by kernel_rfl) (by kernel_rfl) (by kernel_rfl) (by kernel_rfl) (fun _ _ _ h => h) (by rfl) ⟨c1x, k0, k1, k2, k3, k4, x0, x1, x2⟩ ?_ ?_
          · intro W hW
            (try dsimp only at hW)
            go_simp
          try simp only [Act.put, List.getElem_toArray, List.getElem_cons_succ, List.getElem_cons_zero, List.setIfInBounds_toArray, List.set_cons_zero, List.set_cons_succ]
          refine wpZ_take (i := 3) (v := .pointer (some ⟨cb, 1, none⟩)) [4, 14, 17] rfl rfl (by kernel_rfl) (by kernel_rfl) (by kernel_rfl) (by kernel_rfl) (fun _ _ _ h => h) (by rfl) ⟨c1x, k0, k1, k2, k3, k4, x0, x1, x2⟩ ?_ ?_
          · intro W hW
            (try dsimp only at hW)
            go_simp
          try simp only [Act.put, List.getElem_toArray, List.getElem_cons_succ, List.getElem_cons_zero, List.setIfInBounds_toArray, List.set_cons_zero, List.set_cons_succ]
          refine wpZ_take (i := 4) (v := .slice (some ⟨g, 0, none⟩) ws1.length cap) [14, 17] rfl rfl (by kernel_rfl) (by kernel_rfl) (by kernel_rfl) (by kernel_rfl) (fun _ _ _ h => h) (by rfl) ⟨c1x, k0, k1, k2, k3, k4, x0, x1, x2⟩ ?_ ?_
          · intro W hW
            (try dsimp only at hW)
            go_simp
          try simp only [Act.put, List.getElem_toArray, List.getElem_cons_succ, List.getElem_cons_zero, List.setIfInBounds_toArray, List.set_cons_zero, List.set_cons_succ]
          refine wpZ_take (i := 5) (v := k.v) [12, 13, 14, 17] rfl rfl (by kernel_rfl) (by kernel_rfl) (by kernel_rfl) (by kernel_rfl) (fun _ _ _ h => h) (by rfl) ⟨c1x, k0, k1, k2, k3, k4, x0, x1, x2⟩ ?_ ?_
          · intro W hW
            (try dsimp only at hW)
            go_simp
          try simp only [Act.put, List.getElem_toArray, List.getElem_cons_succ, List.getElem_cons_zero, List.setIfInBounds_toArray, List.set_cons_zero, List.set_cons_succ]
          refine wpZ_take (i := 6) (v := .int .u32 (addr / 32)) [12, 13, 14, 17] rfl rfl (by kernel_rfl) (by kernel_rfl) (by kernel_rfl) (by kernel_rfl) (fun _ _ _ h => h) (by rfl) ⟨c1x, k0, k1, k2, k3, k4, x0, x1, x2⟩ ?_ ?_
          · intro W hW
            (try dsimp only at hW)
            go_simp
          try simp only [Act.put, List.getElem_toArray, List.getElem_cons_succ, List.getElem_cons_zero, List.setIfInBounds_toArray, List.set_cons_zero, List.set_cons_succ]
          refine wpZ_take (i := 7) (v := .pointer (some ⟨S.s, 0, none⟩)) [10, 12, 13, 14, 17] rfl rfl (by kernel_rfl) (by kernel_rfl) (by kernel_rfl) (by kernel_rfl) (fun _ _ _ h => h) (by rfl) ⟨c1x, k0, k1, k2, k3, k4, x0, x1, x2⟩ ?_ ?_
          · intro W hW
            (try dsimp only at hW)
            go_simp
          try simp only [Act.put, List.getElem_toArray, List.getElem_cons_succ, List.getElem_cons_zero, List.setIfInBounds_toArray, List.set_cons_zero, List.set_cons_succ]
          refine wpZ_take (i := 8) (v := k.v) [10, 12, 13, 14, 17] rfl rfl (by kernel_rfl) (by kernel_rfl) (by kernel_rfl) (by kernel_rfl) (fun _ _ _ h => h) (by rfl) ⟨c1x, k0, k1, k2, k3, k4, x0, x1, x2⟩ ?_ ?_
          · intro W hW
            (try dsimp only at hW)
            go_simp
          try simp only [Act.put, List.getElem_toArray, List.getElem_cons_succ, List.getElem_cons_zero, List.setIfInBounds_toArray, List.set_cons_zero, List.set_cons_succ]
          refine wpZ_take (i := 9) (v := .int .u32 addr) [10, 12, 13, 14, 17] rfl rfl (by kernel_rfl) (by kernel_rfl) (by kernel_rfl) (by kernel_rfl) (fun _ _ _ h => h) (by rfl) ⟨c1x, k0, k1, k2, k3, k4, x0, x1, x2⟩ ?_ ?_
          · intro W hW
            (try dsimp only at hW)
            go_simp
          try simp only [Act.put, List.getElem_toArray, List.getElem_cons_succ, List.getElem_cons_zero, List.setIfInBounds_toArray, List.set_cons_zero, List.set_cons_succ]
          refine wpZ_take (i := 11) (v := .agg #[.int .i64 P.page, .int .i64 P.at_, .bool P.ro]) [12, 13, 14, 17] rfl rfl (by kernel_rfl) (by kernel_rfl) (by kernel_rfl) (by kernel_rfl) (fun _ _ _ h => h) (by rfl) ⟨c1x, k0, k1, k2, k3, k4, x0, x1, x2⟩ ?_ ?_
          · intro W hW
            (try dsimp only at hW)
            go_simp
          try simp only [Act.put, List.getElem_toArray, List.getElem_cons_succ, List.getElem_cons_zero, List.setIfInBounds_toArray, List.set_cons_zero, List.set_cons_succ]
          refine wpZ_one (i := 10) (by kernel_rfl) rfl (fun KK hK => ?_)
          try simp only [Act.put, List.getElem_toArray, List.getElem_cons_succ, List.getElem_cons_zero, List.setIfInBounds_toArray, List.set_cons_zero, List.set_cons_succ]
          go_simp
          go_at_call 36
          refine (NY.out _ ((HS.out.only TX.out.only (by rintro x hx (rfl | e); exact Nat.lt_irrefl _ (HSS.out x hx); exact Nat.lt_asymm (HSS.out x hx) (hL.out x e).1)).below ((Below.refl _ _).drew))).mono ?_
          rintro e w7 ⟨v, rfl, hv, hb7⟩
          have T7 := Lib.hid (TX.out.below (((Below.refl _ _).drew).trans hb7))
          have V1 := hv.one'
          obtain ⟨B, cv, rfl⟩ : ∃ B cv, v = .slice B P.nodes.length cv := hv.arr
          have HV := Lib.hid hv
          have hlo7 : lo ≤ wx.heap.size := TX.out.ca.le
          have hbb7 : w.heap.size + 1 < wx.drew.heap.size := TX.out.rp.lt
          have HB7 := Lib.hid (show ∀ x, (.slice (some ⟨g, 0, none⟩) ws1.length cap : Value).ownBlock = some x → x < wx.drew.heap.size from fun x hx => (World.ownsRow.lt TX.out.ca.row x hx).2)
          have l7 := hb7.size
          clear hb7 hv k0 k1 k2 k3 k4 x0 x1 x2 c1x
          obtain ⟨k0, k1, k2, k3, k4⟩ := K.facts T7.out.rk
          obtain ⟨x0, x1, x2, -, -, -⟩ := pl_facts T7.out.px
          have c1x := T7.out.ca.c1
          refine hK.out _ _ (fun _ => ⟨c1x, k0, k1, k2, k3, k4, x0, x1, x2⟩) ?_
          clear hK KK
          try simp only [Act.put, List.getElem_toArray, List.getElem_cons_succ, List.getElem_cons_zero, List.setIfInBounds_toArray, List.set_cons_zero, List.set_cons_succ]
          refine wpZ_take (i := 12) (v := .agg #[.int .i64 k.kind, .int .i64 k.id, .int .i64 k.ver, .int .i64 k.rights, .int .u32 k.data, .int .u32 (addr / 32), .slice B P.nodes.length cv, .int .i64 P.page, .int .i64 P.at_, .bool P.ro]) [13, 14, 17] rfl rfl (by kernel_rfl) (by kernel_rfl) (by kernel_rfl) (by kernel_rfl) (fun _ _ _ h => h) (by rfl) ⟨c1x, k0, k1, k2, k3, k4, x0, x1, x2⟩ ?_ ?_
          · intro W hW
            (try dsimp only at hW)
            go_simp
          try simp only [Act.put, List.getElem_toArray, List.getElem_cons_succ, List.getElem_cons_zero, List.setIfInBounds_toArray, List.set_cons_zero, List.set_cons_succ]
          refine wpZ_one (i := 13) (by kernel_rfl) rfl (fun KK hK => ?_)
          try simp only [Act.put, List.getElem_toArray, List.getElem_cons_succ, List.getElem_cons_zero, List.setIfInBounds_toArray, List.set_cons_zero, List.set_cons_succ]
          go_simp
          have T8 := Lib.hid (T7.out.below ((Below.refl _ w7).alloc (Nat.le_refl _) (.cells #[.int .i64 k.kind, .int .i64 k.id, .int .i64 k.ver, .int .i64 k.rights, .int .u32 k.data, .int .u32 (addr / 32), .slice B P.nodes.length cv, .int .i64 P.page, .int .i64 P.at_, .bool P.ro] 123)))
          clear k0 k1 k2 k3 k4 x0 x1 x2 c1x
          obtain ⟨k0, k1, k2, k3, k4⟩ := K.facts T8.out.rk
          obtain ⟨x0, x1, x2, -, -, -⟩ := pl_facts T8.out.px
          have c1x := T8.out.ca.c1
          refine hK.out _ _ (fun _ => ⟨c1x, k0, k1, k2, k3, k4, x0, x1, x2⟩) ?_
          clear hK KK
          try simp only [Act.put, List.getElem_toArray, List.getElem_cons_succ, List.getElem_cons_zero, List.setIfInBounds_toArray, List.set_cons_zero, List.set_cons_succ]
          refine wpZ_one (i := 14) (by kernel_rfl) rfl (fun KK hK => ?_)
          try simp only [Act.put, List.getElem_toArray, List.getElem_cons_succ, List.getElem_cons_zero, List.setIfInBounds_toArray, List.set_cons_zero, List.set_cons_succ]
          rw [if_pos (by rfl)]
          refine wp_append_lies _ (.tmp 87) (.tmp 96) 119 rfl lo 123 i0 zWay 10 96 Tryd.underlying119 hi0 hz0 hz1 hz2 zWay_size (by decide) (.slice (some ⟨g, 0, none⟩) ws1.length cap) ws1.length (ws1.flatMap fun p => wayVals p.1 p.2) rfl T8.out.ca.row ⟨w7.heap.size, 0, none⟩ 1 1 (wayVals ⟨k, addr / 32, P.nodes, P.page, P.at_, P.ro⟩ (.slice B P.nodes.length cv)) rfl rfl (way_cells w7 ⟨k, addr / 32, P.nodes, P.page, P.at_, P.ro⟩ (.slice B P.nodes.length cv)) (wayVals_one _ _ V1) (by decide) (by simp only [maxLen]; omega) (by omega) T8.out.ca.le (w7.heap.size + 1) (by simp) ?_
          intro g2 cap2 w8 hown hgrow hat hlt
          have T9 := Lib.hid (T7.out.added (c := ⟨k, addr / 32, P.nodes, P.page, P.at_, P.ro⟩) HV.out hlo7 hbb7 HB7.out hown hgrow hat)
          have far : Hid (∀ a : Addr, a.block < (w7.alloc (.cells #[.int .i64 k.kind, .int .i64 k.id, .int .i64 k.ver, .int .i64 k.rights, .int .u32 k.data, .int .u32 (addr / 32), .slice B P.nodes.length cv, .int .i64 P.page, .int .i64 P.at_, .bool P.ro] 123)).heap.size → ((.slice (some ⟨g, 0, none⟩) ws1.length cap : Value).ownBlock ≠ some a.block) → w8.cell? a = (w7.alloc (.cells #[.int .i64 k.kind, .int .i64 k.id, .int .i64 k.ver, .int .i64 k.rights, .int .u32 k.data, .int .u32 (addr / 32), .slice B P.nodes.length cv, .int .i64 P.page, .int .i64 P.at_, .bool P.ro] 123)).cell? a) := fun a h1 h2 => hgrow.cell_far a h1 (fun e => h2 e.symm)
          have f1 : w8.frozen? ⟨cb, 1, none⟩ = false := (hgrow.frozen_far ⟨cb, 1, none⟩ T8.out.ca.hd.lt (fun e => T8.out.ca.own_ne_cb e.symm)).trans (T8.out.ca.hd.frozen 1)
          have c1y := (far.out ⟨cb, 1, none⟩ T8.out.ca.hd.lt T8.out.ca.own_ne_cb).trans c1x
          have fk : Hid (∀ i : Nat, w8.cell? ⟨w.heap.size, i, none⟩ = _) := fun i => far.out ⟨w.heap.size, i, none⟩ T8.out.rk.lt (fun e => (T8.out.lk _ e).1 rfl)
          have fx : Hid (∀ i : Nat, w8.cell? ⟨w5.heap.size, i, none⟩ = _) := fun i => far.out ⟨w5.heap.size, i, none⟩ T8.out.px.lt (fun e => (T8.out.lk _ e).2.2 rfl)
          have S8 := Lib.hid (show (fun W => W.cell? ⟨cb, 1, none⟩ = some (.slice (some ⟨g, 0, none⟩) ws1.length cap) ∧ W.cell? ⟨w.heap.size, 0, none⟩ = some (.int .i64 k.kind) ∧ W.cell? ⟨w.heap.size, 1, none⟩ = some (.int .i64 k.id) ∧ W.cell? ⟨w.heap.size, 2, none⟩ = some (.int .i64 k.ver) ∧ W.cell? ⟨w.heap.size, 3, none⟩ = some (.int .i64 k.rights) ∧ W.cell? ⟨w.heap.size, 4, none⟩ = some (.int .u32 k.data) ∧ W.cell? ⟨w5.heap.size, 0, none⟩ = some (.int .i64 P.page) ∧ W.cell? ⟨w5.heap.size, 1, none⟩ = some (.int .i64 P.at_) ∧ W.cell? ⟨w5.heap.size, 2, none⟩ = some (.bool P.ro)) w8 from ⟨c1y, (fk.out 0).trans k0, (fk.out 1).trans k1, (fk.out 2).trans k2, (fk.out 3).trans k3, (fk.out 4).trans k4, (fx.out 0).trans x0, (fx.out 1).trans x1, (fx.out 2).trans x2⟩)
          refine hK.out _ _ (fun _ => S8.out) ?_
          clear hK KK k0 k1 k2 k3 k4 x0 x1 x2 c1x fk fx far hown hgrow
          try simp only [Act.put, List.setIfInBounds_toArray, List.set_cons_zero, List.set_cons_succ]
          refine wpZ_take (i := 15) (v := .pointer (some ⟨cb, 0, none⟩)) [16, 17] rfl rfl (by kernel_rfl) (by kernel_rfl) (by kernel_rfl) (by kernel_rfl) (fun _ _ _ h => h) (by rfl) S8.out ?_ ?_
          · intro W hW
            (try dsimp only at hW)
            go_simp
          try simp only [Act.put, List.getElem_toArray, List.getElem_cons_succ, List.getElem_cons_zero, List.setIfInBounds_toArray, List.set_cons_zero, List.set_cons_succ]
          refine wpZ_take (i := 16) (v := .pointer (some ⟨cb, 1, none⟩)) [17] rfl rfl (by kernel_rfl) (by kernel_rfl) (by kernel_rfl) (by kernel_rfl) (fun _ _ _ h => h) (by rfl) S8.out ?_ ?_
          · intro W hW
            (try dsimp only at hW)
            go_simp
          try simp only [Act.put, List.getElem_toArray, List.getElem_cons_succ, List.getElem_cons_zero, List.setIfInBounds_toArray, List.set_cons_zero, List.set_cons_succ]
          refine wpZ_one (i := 17) (by kernel_rfl) rfl (fun KK hK => ?_)
          try simp only [Act.put, List.getElem_toArray, List.getElem_cons_succ, List.getElem_cons_zero]
          go_simp
          refine hK.out _ _ (fun h => absurd rfl h) ?_
          clear hK KK
          refine wpZ_done (by kernel_rfl) ?_ _
          obtain ⟨w9, hw9⟩ : ∃ w9, w9 = w8.setCell ⟨cb, 1, none⟩ (.slice (some ⟨g2, 0, none⟩) (ws1.length + 1) cap2) := ⟨_, rfl⟩
          rw [← hw9] at T9 ⊢
          clear f1 c1y hat hlt hw9
          obtain ⟨x0, x1, x2, -, -, -⟩ := pl_facts T9.out.px
          obtain ⟨p0, p1, p2, q0, q1, q2⟩ := pl_facts T9.out.rp
          have lx9 := T9.out.px.lt
          have lp9 := T9.out.rp.lt
          have O := (((T9.out.only.setCell ⟨w.heap.size + 1, 0, none⟩ (.int .i64 P.page) (.inr (by simp))).setCell ⟨w.heap.size + 1, 1, none⟩ (.int .i64 P.at_) (.inr (by simp))).setCell ⟨w.heap.size + 1, 2, none⟩ (.bool P.ro) (.inr (by simp)))
          have RP := (((T9.out.rp.set 0 (.int .i64 P.page)).set 1 (.int .i64 P.at_)).set 2 (.bool P.ro)).congr (g := plCell P.page P.at_ P.ro) (fun j hj => by rcases (by omega : j = 0 ∨ j = 1 ∨ j = 2) with rfl | rfl | rfl <;> rfl)
          obtain ⟨m0, m1, m2, -, -, -⟩ := pl_facts RP
          clear RP
          go_wp2
          rw [HF2.out]
          refine bodyPost_ret (v := .tuple #[.agg #[.int .i64 P.page, .int .i64 P.at_, .bool P.ro], .int .i64 0]) (by simp only [results, Tryd.results40, go_sem]; simp [go_sem, m0, m1, m2]) rfl ⟨_, ws1 ++ [(⟨k, addr / 32, P.nodes, P.page, P.at_, P.ro⟩, .slice B P.nodes.length cv)], rfl, ?_, ?_, O, T9.out.lb, ?_⟩
          · show _ = roomF size (ws.map (·.1)) ++ [_]
            rw [List.map_append]
            exact congrArg (· ++ _) HR.out
          · show Ca _ cb lo size (if (false = true) then hits + 1 else hits) _ _
            rw [if_neg (by decide)]
            exact T9.out.ca.box3 T9.out.lk T9.out.cw T9.out.rp.lt T9.out.nk (pl_only w9 (w.heap.size + 1) (.int .i64 P.page) (.int .i64 P.at_) (.bool P.ro)).size (fun x hx => (pl_only w9 (w.heap.size + 1) (.int .i64 P.page) (.int .i64 P.at_) (.bool P.ro)).block x hx)
          · intro p hp
            rcases List.mem_append.1 hp with hp | hp
            · exact .inl (List.mem_of_mem_tail (by rw [← HW1.out]; exact hp))
            · obtain rfl : p = _ := List.mem_singleton.1 hp
              exact .inr (fun g hg => by have := (HV.out.lt g hg).1; omega)

        · have hfb : decide (size ≤ (ws.length : Int)) = false := by simpa using hfull
          go_wp2_with (fail)
          go_quiet (fail)
          go_wp2_with (fail)
          obtain ⟨wx, hwx⟩ : ∃ wx, wx = (w5.alloc (.cells #[.int .i64 P.page, .int .i64 P.at_, .bool P.ro] 41)).drewN nq := ⟨_, rfl⟩
          rw [← hwx]
          have BX : Below w5.heap.size w5 wx := by rw [hwx]; exact below_drewN ((Below.refl _ w5).alloc (Nat.le_refl _) _) _
          have TX : Hid (FdT w cb lo size hits (.slice A ws.length cap) (.slice A ws.length cap) ws k P w5.heap.size wx) := by
            have IX := I5.out.below BX
            have l5 := I5.out.rp.lt
            exact ⟨Only.of_below _ IX.bel, IX.rk, IX.rp, (show Row wx w5.heap.size 3 (plCell P.page P.at_ P.ro) by rw [hwx]; exact PL.out.below (below_drewN (Below.refl _ _) _)), HC5.out.below BX, fun g hg => .inl hg, fun g hg => by have := (hL.out g hg).2; exact ⟨by omega, by omega, by omega⟩, fun p hp x hx => by have := ((HC.out.ns p hp).lt x hx).2; omega, lc, by omega⟩
          have HR := Lib.hid (show ws.map (·.1) = roomF size (ws.map (·.1)) by unfold roomF; rw [if_neg (by simpa using hfull)])
          clear hwx BX PL c0 c15 lc5
          obtain ⟨k0, k1, k2, k3, k4⟩ := K.facts TX.out.rk
          obtain ⟨x0, x1, x2, -, -, -⟩ := pl_facts TX.out.px
          have c1x := TX.out.ca.c1
          have lkx := TX.out.rk.lt
          obtain ⟨i0, hi0, hz0, hz1, hz2⟩ := info_parts info123
          refine wp_region_Z (fun W => W.cell? ⟨cb, 1, none⟩ = some (.slice A ws.length cap) ∧ W.cell? ⟨w.heap.size, 0, none⟩ = some (.int .i64 k.kind) ∧ W.cell? ⟨w.heap.size, 1, none⟩ = some (.int .i64 k.id) ∧ W.cell? ⟨w.heap.size, 2, none⟩ = some (.int .i64 k.ver) ∧ W.cell? ⟨w.heap.size, 3, none⟩ = some (.int .i64 k.rights) ∧ W.cell? ⟨w.heap.size, 4, none⟩ = some (.int .u32 k.data) ∧ W.cell? ⟨w5.heap.size, 0, none⟩ = some (.int .i64 P.page) ∧ W.cell? ⟨w5.heap.size, 1, none⟩ = some (.int .i64 P.at_) ∧ W.cell? ⟨w5.heap.size, 2, none⟩ = some (.bool P.ro)) 17 (by kernel_rfl) ?_
          refine wpZ_take (i := 0) (v := .pointer (some ⟨cb, 0, none⟩)) [15, 16, 17] rfl rfl (by kernel_rfl) (by kernel_rfl) (by kernel_rfl) (by kernel_rfl) (fun _ _ _ h => h) (by rfl) ⟨c1x, k0, k1, k2, k3, k4, x0, x1, x2⟩ ?_ ?_
          · intro W hW
            (try dsimp only at hW)
            go_simp
          try simp only [Act.put, List.getElem_toArray, List.getElem_cons_zero, List.setIfInBounds_toArray, List.set_cons_zero, List.set_cons_succ]
          refine wpZ_take (i := 1) (v := .pointer (some ⟨cb, 0, none⟩)) [2, 3, 4, 14, 17] rfl rfl (by kernel_rfl) (by kernel_rfl) (by kernel_rfl) (by kernel_rfl) (fun _ _ _ h => h) (by rfl) ⟨c1x, k0, k1, k2, k3, k4, x0, x1, x2⟩ ?_ ?_
          · intro W hW
            (try dsimp only at hW)
            go_simp
          try simp only [Act.put, List.getElem_toArray, List.getElem_cons_succ, List.getElem_cons_zero, List.setIfInBounds_toArray, List.set_cons_zero, List.set_cons_succ]
          refine wpZ_take (i := 2) (v := .pointer (some ⟨cb, 0, none⟩)) [3, 4, 14, 17] rfl rfl (by kernel_rfl) (by kernel_rfl) (by kernel_rfl) (by kernel_rfl) (fun _ _ _ h => h) (by rfl) ⟨c1x, k0, k1, k2, k3, k4, x0, x1, x2⟩ ?_ ?_
          · intro W hW
            (try dsimp only at hW)
            go_simp
          try simp only [Act.put, List.getElem_toArray, List.getElem_cons_succ, List.getElem_cons_zero, List.setIfInBounds_toArray, List.set_cons_zero, List.set_cons_succ]
          refine wpZ_take (i := 3) (v := .pointer (some ⟨cb, 1, none⟩)) [4, 14, 17] rfl rfl (by kernel_rfl) (by kernel_rfl) (by kernel_rfl) (by kernel_rfl) (fun _ _ _ h => h) (by rfl) ⟨c1x, k0, k1, k2, k3, k4, x0, x1, x2⟩ ?_ ?_
          · intro W hW
            (try dsimp only at hW)
            go_simp
          try simp only [Act.put, List.getElem_toArray, List.getElem_cons_succ, List.getElem_cons_zero, List.setIfInBounds_toArray, List.set_cons_zero, List.set_cons_succ]
          refine wpZ_take (i := 4) (v := .slice A ws.length cap) [14, 17] rfl rfl (by kernel_rfl) (by kernel_rfl) (by kernel_rfl) (by kernel_rfl) (fun _ _ _ h => h) (by rfl) ⟨c1x, k0, k1, k2, k3, k4, x0, x1, x2⟩ ?_ ?_
          · intro W hW
            (try dsimp only at hW)
            go_simp
          try simp only [Act.put, List.getElem_toArray, List.getElem_cons_succ, List.getElem_cons_zero, List.setIfInBounds_toArray, List.set_cons_zero, List.set_cons_succ]
          refine wpZ_take (i := 5) (v := k.v) [12, 13, 14, 17] rfl rfl (by kernel_rfl) (by kernel_rfl) (by kernel_rfl) (by kernel_rfl) (fun _ _ _ h => h) (by rfl) ⟨c1x, k0, k1, k2, k3, k4, x0, x1, x2⟩ ?_ ?_
          · intro W hW
            (try dsimp only at hW)
            go_simp
          try simp only [Act.put, List.getElem_toArray, List.getElem_cons_succ, List.getElem_cons_zero, List.setIfInBounds_toArray, List.set_cons_zero, List.set_cons_succ]
          refine wpZ_take (i := 6) (v := .int .u32 (addr / 32)) [12, 13, 14, 17] rfl rfl (by kernel_rfl) (by kernel_rfl) (by kernel_rfl) (by kernel_rfl) (fun _ _ _ h => h) (by rfl) ⟨c1x, k0, k1, k2, k3, k4, x0, x1, x2⟩ ?_ ?_
          · intro W hW
            (try dsimp only at hW)
            go_simp
          try simp only [Act.put, List.getElem_toArray, List.getElem_cons_succ, List.getElem_cons_zero, List.setIfInBounds_toArray, List.set_cons_zero, List.set_cons_succ]
          refine wpZ_take (i := 7) (v := .pointer (some ⟨S.s, 0, none⟩)) [10, 12, 13, 14, 17] rfl rfl (by kernel_rfl) (by kernel_rfl) (by kernel_rfl) (by kernel_rfl) (fun _ _ _ h => h) (by rfl) ⟨c1x, k0, k1, k2, k3, k4, x0, x1, x2⟩ ?_ ?_
          · intro W hW
            (try dsimp only at hW)
            go_simp
          try simp only [Act.put, List.getElem_toArray, List.getElem_cons_succ, List.getElem_cons_zero, List.setIfInBounds_toArray, List.set_cons_zero, List.set_cons_succ]
          refine wpZ_take (i := 8) (v := k.v) [10, 12, 13, 14, 17] rfl rfl (by kernel_rfl) (by kernel_rfl) (by kernel_rfl) (by kernel_rfl) (fun _ _ _ h => h) (by rfl) ⟨c1x, k0, k1, k2, k3, k4, x0, x1, x2⟩ ?_ ?_
          · intro W hW
            (try dsimp only at hW)
            go_simp
          try simp only [Act.put, List.getElem_toArray, List.getElem_cons_succ, List.getElem_cons_zero, List.setIfInBounds_toArray, List.set_cons_zero, List.set_cons_succ]
          refine wpZ_take (i := 9) (v := .int .u32 addr) [10, 12, 13, 14, 17] rfl rfl (by kernel_rfl) (by kernel_rfl) (by kernel_rfl) (by kernel_rfl) (fun _ _ _ h => h) (by rfl) ⟨c1x, k0, k1, k2, k3, k4, x0, x1, x2⟩ ?_ ?_
          · intro W hW
            (try dsimp only at hW)
            go_simp
          try simp only [Act.put, List.getElem_toArray, List.getElem_cons_succ, List.getElem_cons_zero, List.setIfInBounds_toArray, List.set_cons_zero, List.set_cons_succ]
          refine wpZ_take (i := 11) (v := .agg #[.int .i64 P.page, .int .i64 P.at_, .bool P.ro]) [12, 13, 14, 17] rfl rfl (by kernel_rfl) (by kernel_rfl) (by kernel_rfl) (by kernel_rfl) (fun _ _ _ h => h) (by rfl) ⟨c1x, k0, k1, k2, k3, k4, x0, x1, x2⟩ ?_ ?_
          · intro W hW
            (try dsimp only at hW)
            go_simp
          try simp only [Act.put, List.getElem_toArray, List.getElem_cons_succ, List.getElem_cons_zero, List.setIfInBounds_toArray, List.set_cons_zero, List.set_cons_succ]
          refine wpZ_one (i := 10) (by kernel_rfl) rfl (fun KK hK => ?_)
          try simp only [Act.put, List.getElem_toArray, List.getElem_cons_succ, List.getElem_cons_zero, List.setIfInBounds_toArray, List.set_cons_zero, List.set_cons_succ]
          go_simp
          go_at_call 36
          refine (NY.out _ ((HS.out.only TX.out.only (by rintro x hx (rfl | e); exact Nat.lt_irrefl _ (HSS.out x hx); exact Nat.lt_asymm (HSS.out x hx) (hL.out x e).1)).below ((Below.refl _ _).drew))).mono ?_
          rintro e w7 ⟨v, rfl, hv, hb7⟩
          have T7 := Lib.hid (TX.out.below (((Below.refl _ _).drew).trans hb7))
          have V1 := hv.one'
          obtain ⟨B, cv, rfl⟩ : ∃ B cv, v = .slice B P.nodes.length cv := hv.arr
          have HV := Lib.hid hv
          have hlo7 : lo ≤ wx.heap.size := TX.out.ca.le
          have hbb7 : w.heap.size + 1 < wx.drew.heap.size := TX.out.rp.lt
          have HB7 := Lib.hid (show ∀ x, (.slice A ws.length cap : Value).ownBlock = some x → x < wx.drew.heap.size from fun x hx => (World.ownsRow.lt TX.out.ca.row x hx).2)
          have l7 := hb7.size
          clear hb7 hv k0 k1 k2 k3 k4 x0 x1 x2 c1x
          obtain ⟨k0, k1, k2, k3, k4⟩ := K.facts T7.out.rk
          obtain ⟨x0, x1, x2, -, -, -⟩ := pl_facts T7.out.px
          have c1x := T7.out.ca.c1
          refine hK.out _ _ (fun _ => ⟨c1x, k0, k1, k2, k3, k4, x0, x1, x2⟩) ?_
          clear hK KK
          try simp only [Act.put, List.getElem_toArray, List.getElem_cons_succ, List.getElem_cons_zero, List.setIfInBounds_toArray, List.set_cons_zero, List.set_cons_succ]
          refine wpZ_take (i := 12) (v := .agg #[.int .i64 k.kind, .int .i64 k.id, .int .i64 k.ver, .int .i64 k.rights, .int .u32 k.data, .int .u32 (addr / 32), .slice B P.nodes.length cv, .int .i64 P.page, .int .i64 P.at_, .bool P.ro]) [13, 14, 17] rfl rfl (by kernel_rfl) (by kernel_rfl) (by kernel_rfl) (by kernel_rfl) (fun _ _ _ h => h) (by rfl) ⟨c1x, k0, k1, k2, k3, k4, x0, x1, x2⟩ ?_ ?_
          · intro W hW
            (try dsimp only at hW)
            go_simp
          try simp only [Act.put, List.getElem_toArray, List.getElem_cons_succ, List.getElem_cons_zero, List.setIfInBounds_toArray, List.set_cons_zero, List.set_cons_succ]
          refine wpZ_one (i := 13) (by kernel_rfl) rfl (fun KK hK => ?_)
          try simp only [Act.put, List.getElem_toArray, List.getElem_cons_succ, List.getElem_cons_zero, List.setIfInBounds_toArray, List.set_cons_zero, List.set_cons_succ]
          go_simp
          have T8 := Lib.hid (T7.out.below ((Below.refl _ w7).alloc (Nat.le_refl _) (.cells #[.int .i64 k.kind, .int .i64 k.id, .int .i64 k.ver, .int .i64 k.rights, .int .u32 k.data, .int .u32 (addr / 32), .slice B P.nodes.length cv, .int .i64 P.page, .int .i64 P.at_, .bool P.ro] 123)))
          clear k0 k1 k2 k3 k4 x0 x1 x2 c1x
          obtain ⟨k0, k1, k2, k3, k4⟩ := K.facts T8.out.rk
          obtain ⟨x0, x1, x2, -, -, -⟩ := pl_facts T8.out.px
          have c1x := T8.out.ca.c1
          refine hK.out _ _ (fun _ => ⟨c1x, k0, k1, k2, k3, k4, x0, x1, x2⟩) ?_
          clear hK KK
          try simp only [Act.put, List.getElem_toArray, List.getElem_cons_succ, List.getElem_cons_zero, List.setIfInBounds_toArray, List.set_cons_zero, List.set_cons_succ]
          refine wpZ_one (i := 14) (by kernel_rfl) rfl (fun KK hK => ?_)
          try simp only [Act.put, List.getElem_toArray, List.getElem_cons_succ, List.getElem_cons_zero, List.setIfInBounds_toArray, List.set_cons_zero, List.set_cons_succ]
          rw [if_pos (by rfl)]
          refine wp_append_lies _ (.tmp 87) (.tmp 96) 119 rfl lo 123 i0 zWay 10 96 Tryd.underlying119 hi0 hz0 hz1 hz2 zWay_size (by decide) (.slice A ws.length cap) ws.length (ws.flatMap fun p => wayVals p.1 p.2) rfl T8.out.ca.row ⟨w7.heap.size, 0, none⟩ 1 1 (wayVals ⟨k, addr / 32, P.nodes, P.page, P.at_, P.ro⟩ (.slice B P.nodes.length cv)) rfl rfl (way_cells w7 ⟨k, addr / 32, P.nodes, P.page, P.at_, P.ro⟩ (.slice B P.nodes.length cv)) (wayVals_one _ _ V1) (by decide) (by simp only [maxLen]; omega) (by omega) T8.out.ca.le (w7.heap.size + 1) (by simp) ?_
          intro g2 cap2 w8 hown hgrow hat hlt
          have T9 := Lib.hid (T7.out.added (c := ⟨k, addr / 32, P.nodes, P.page, P.at_, P.ro⟩) HV.out hlo7 hbb7 HB7.out hown hgrow hat)
          have far : Hid (∀ a : Addr, a.block < (w7.alloc (.cells #[.int .i64 k.kind, .int .i64 k.id, .int .i64 k.ver, .int .i64 k.rights, .int .u32 k.data, .int .u32 (addr / 32), .slice B P.nodes.length cv, .int .i64 P.page, .int .i64 P.at_, .bool P.ro] 123)).heap.size → ((.slice A ws.length cap : Value).ownBlock ≠ some a.block) → w8.cell? a = (w7.alloc (.cells #[.int .i64 k.kind, .int .i64 k.id, .int .i64 k.ver, .int .i64 k.rights, .int .u32 k.data, .int .u32 (addr / 32), .slice B P.nodes.length cv, .int .i64 P.page, .int .i64 P.at_, .bool P.ro] 123)).cell? a) := fun a h1 h2 => hgrow.cell_far a h1 (fun e => h2 e.symm)
          have f1 : w8.frozen? ⟨cb, 1, none⟩ = false := (hgrow.frozen_far ⟨cb, 1, none⟩ T8.out.ca.hd.lt (fun e => T8.out.ca.own_ne_cb e.symm)).trans (T8.out.ca.hd.frozen 1)
          have c1y := (far.out ⟨cb, 1, none⟩ T8.out.ca.hd.lt T8.out.ca.own_ne_cb).trans c1x
          have fk : Hid (∀ i : Nat, w8.cell? ⟨w.heap.size, i, none⟩ = _) := fun i => far.out ⟨w.heap.size, i, none⟩ T8.out.rk.lt (fun e => (T8.out.lk _ e).1 rfl)
          have fx : Hid (∀ i : Nat, w8.cell? ⟨w5.heap.size, i, none⟩ = _) := fun i => far.out ⟨w5.heap.size, i, none⟩ T8.out.px.lt (fun e => (T8.out.lk _ e).2.2 rfl)
          have S8 := Lib.hid (show (fun W => W.cell? ⟨cb, 1, none⟩ = some (.slice A ws.length cap) ∧ W.cell? ⟨w.heap.size, 0, none⟩ = some (.int .i64 k.kind) ∧ W.cell? ⟨w.heap.size, 1, none⟩ = some (.int .i64 k.id) ∧ W.cell? ⟨w.heap.size, 2, none⟩ = some (.int .i64 k.ver) ∧ W.cell? ⟨w.heap.size, 3, none⟩ = some (.int .i64 k.rights) ∧ W.cell? ⟨w.heap.size, 4, none⟩ = some (.int .u32 k.data) ∧ W.cell? ⟨w5.heap.size, 0, none⟩ = some (.int .i64 P.page) ∧ W.cell? ⟨w5.heap.size, 1, none⟩ = some (.int .i64 P.at_) ∧ W.cell? ⟨w5.heap.size, 2, none⟩ = some (.bool P.ro)) w8 from ⟨c1y, (fk.out 0).trans k0, (fk.out 1).trans k1, (fk.out 2).trans k2, (fk.out 3).trans k3, (fk.out 4).trans k4, (fx.out 0).trans x0, (fx.out 1).trans x1, (fx.out 2).trans x2⟩)
          refine hK.out _ _ (fun _ => S8.out) ?_
          clear hK KK k0 k1 k2 k3 k4 x0 x1 x2 c1x fk fx far hown hgrow
          try simp only [Act.put, List.setIfInBounds_toArray, List.set_cons_zero, List.set_cons_succ]
          refine wpZ_take (i := 15) (v := .pointer (some ⟨cb, 0, none⟩)) [16, 17] rfl rfl (by kernel_rfl) (by kernel_rfl) (by kernel_rfl) (by kernel_rfl) (fun _ _ _ h => h) (by rfl) S8.out ?_ ?_
          · intro W hW
            (try dsimp only at hW)
            go_simp
          try simp only [Act.put, List.getElem_toArray, List.getElem_cons_succ, List.getElem_cons_zero, List.setIfInBounds_toArray, List.set_cons_zero, List.set_cons_succ]
          refine wpZ_take (i := 16) (v := .pointer (some ⟨cb, 1, none⟩)) [17] rfl rfl (by kernel_rfl) (by kernel_rfl) (by kernel_rfl) (by kernel_rfl) (fun _ _ _ h => h) (by rfl) S8.out ?_ ?_
          · intro W hW
            (try dsimp only at hW)
            go_simp
          try simp only [Act.put, List.getElem_toArray, List.getElem_cons_succ, List.getElem_cons_zero, List.setIfInBounds_toArray, List.set_cons_zero, List.set_cons_succ]
          refine wpZ_one (i := 17) (by kernel_rfl) rfl (fun KK hK => ?_)
          try simp only [Act.put, List.getElem_toArray, List.getElem_cons_succ, List.getElem_cons_zero]
          go_simp
          refine hK.out _ _ (fun h => absurd rfl h) ?_
          clear hK KK
          refine wpZ_done (by kernel_rfl) ?_ _
          obtain ⟨w9, hw9⟩ : ∃ w9, w9 = w8.setCell ⟨cb, 1, none⟩ (.slice (some ⟨g2, 0, none⟩) (ws.length + 1) cap2) := ⟨_, rfl⟩
          rw [← hw9] at T9 ⊢
          clear f1 c1y hat hlt hw9
          obtain ⟨x0, x1, x2, -, -, -⟩ := pl_facts T9.out.px
          obtain ⟨p0, p1, p2, q0, q1, q2⟩ := pl_facts T9.out.rp
          have lx9 := T9.out.px.lt
          have lp9 := T9.out.rp.lt
          have O := (((T9.out.only.setCell ⟨w.heap.size + 1, 0, none⟩ (.int .i64 P.page) (.inr (by simp))).setCell ⟨w.heap.size + 1, 1, none⟩ (.int .i64 P.at_) (.inr (by simp))).setCell ⟨w.heap.size + 1, 2, none⟩ (.bool P.ro) (.inr (by simp)))
          have RP := (((T9.out.rp.set 0 (.int .i64 P.page)).set 1 (.int .i64 P.at_)).set 2 (.bool P.ro)).congr (g := plCell P.page P.at_ P.ro) (fun j hj => by rcases (by omega : j = 0 ∨ j = 1 ∨ j = 2) with rfl | rfl | rfl <;> rfl)
          obtain ⟨m0, m1, m2, -, -, -⟩ := pl_facts RP
          clear RP
          go_wp2
          rw [HF2.out]
          refine bodyPost_ret (v := .tuple #[.agg #[.int .i64 P.page, .int .i64 P.at_, .bool P.ro], .int .i64 0]) (by simp only [results, Tryd.results40, go_sem]; simp [go_sem, m0, m1, m2]) rfl ⟨_, ws ++ [(⟨k, addr / 32, P.nodes, P.page, P.at_, P.ro⟩, .slice B P.nodes.length cv)], rfl, ?_, ?_, O, T9.out.lb, ?_⟩
          · show _ = roomF size (ws.map (·.1)) ++ [_]
            rw [List.map_append]
            exact congrArg (· ++ _) HR.out
          · show Ca _ cb lo size (if (false = true) then hits + 1 else hits) _ _
            rw [if_neg (by decide)]
            exact T9.out.ca.box3 T9.out.lk T9.out.cw T9.out.rp.lt T9.out.nk (pl_only w9 (w.heap.size + 1) (.int .i64 P.page) (.int .i64 P.at_) (.bool P.ro)).size (fun x hx => (pl_only w9 (w.heap.size + 1) (.int .i64 P.page) (.int .i64 P.at_) (.bool P.ro)).block x hx)
          · intro p hp
            rcases List.mem_append.1 hp with hp | hp
            · exact .inl (hp)
            · obtain rfl : p = _ := List.mem_singleton.1 hp
              exact .inr (fun g hg => by have := (HV.out.lt g hg).1; omega)

      · have HF2 := Lib.hid (show findF C size (ws.map (·.1)) k addr = (⟨0, 0, false, P.fault⟩, false, ws.map (·.1)) by rw [HF.out, if_neg hpf])
        clear HF
        have hpb : (P.fault != 0) = true := by simpa using hpf
        obtain ⟨p0, p1, p2, q0, q1, q2⟩ := pl_facts I5.out.rp
        have lp := I5.out.rp.lt
        have O := ((((Only.of_below (fun x => x = cb ∨ w.heap.size ≤ x) I5.out.bel).setCell ⟨w.heap.size + 1, 0, none⟩ (.int .i64 0) (.inr (by simp))).setCell ⟨w.heap.size + 1, 1, none⟩ (.int .i64 0) (.inr (by simp))).setCell ⟨w.heap.size + 1, 2, none⟩ (.bool false) (.inr (by simp))).alloc (.cells #[.int .i64 P.page, .int .i64 P.at_, .bool P.ro] 41)
        have RP := ((((I5.out.rp.set 0 (.int .i64 0)).set 1 (.int .i64 0)).set 2 (.bool false)).alloc (.cells #[.int .i64 P.page, .int .i64 P.at_, .bool P.ro] 41)).congr (g := plCell 0 0 false) (fun j hj => by rcases (by omega : j = 0 ∨ j = 1 ∨ j = 2) with rfl | rfl | rfl <;> rfl)
        obtain ⟨m0, m1, m2, -, -, -⟩ := pl_facts RP
        have nb : cb ≠ w.heap.size + 1 := by omega
        have HD := ((((HC.out.below I5.out.bel).hd.setOther ⟨w.heap.size + 1, 0, none⟩ (.int .i64 0) nb).setOther ⟨w.heap.size + 1, 1, none⟩ (.int .i64 0) nb).setOther ⟨w.heap.size + 1, 2, none⟩ (.bool false) nb).alloc (.cells #[.int .i64 P.page, .int .i64 P.at_, .bool P.ro] 41)
        clear RP
        go_wp2
        rw [HF2.out]
        refine bodyPost_ret (v := .tuple #[.agg #[.int .i64 0, .int .i64 0, .bool false], .int .i64 P.fault]) (by simp only [results, Tryd.results40, go_sem]; simp [go_sem, m0, m1, m2]) rfl ⟨_, ws, rfl, rfl, HC.out.moved HD (fun x h1 h2 => O.block x h2 (by omega)) O.size, O.mono (fun x _ hx => by rcases hx with hx | hx; exact .inl hx; omega), fun g hg => .inl hg, fun p hp => .inl hp⟩

end Go.Proofs.YtdlemkmkheokkaaDoor
