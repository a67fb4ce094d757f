/- The contract of cache.Forget. -/
import Derived.Test.YtdlemkmkheokkaaDoorCi
namespace Go.Proofs.YtdlemkmkheokkaaDoor
open Go.RowKit

abbrev flatW (ws : List (CW × Value)) : List Value := ws.flatMap fun p => wayVals p.1 p.2
theorem flatW_len (ws : List (CW × Value)) : (flatW ws).length = ws.length * 10 := by
  induction ws with
  | nil => rfl
  | cons p ws ih => rw [flatW, List.flatMap_cons, List.length_append, ← flatW, ih]; simp [wayVals]; omega
/-- the ten cells of a way -/
def WayAt (W : World) (g j : Nat) (c : CW) (v : Value) : Prop := ∀ d, d < 10 → W.cell? ⟨g, j * 10 + d, none⟩ = (wayVals c v)[d]?
theorem WayAt.facts {W : World} {g j : Nat} {c : CW} {v : Value} (h : WayAt W g j c v) :
    W.cell? ⟨g, j * 10, none⟩ = some (.int .i64 c.k.kind) ∧ W.cell? ⟨g, j * 10 + 1, none⟩ = some (.int .i64 c.k.id) ∧ W.cell? ⟨g, j * 10 + 2, none⟩ = some (.int .i64 c.k.ver) ∧ W.cell? ⟨g, j * 10 + 3, none⟩ = some (.int .i64 c.k.rights) ∧ W.cell? ⟨g, j * 10 + 4, none⟩ = some (.int .u32 c.k.data) ∧
    W.cell? ⟨g, j * 10 + 5, none⟩ = some (.int .u32 c.pg) ∧ W.cell? ⟨g, j * 10 + 6, none⟩ = some v ∧ W.cell? ⟨g, j * 10 + 7, none⟩ = some (.int .i64 c.page) ∧ W.cell? ⟨g, j * 10 + 8, none⟩ = some (.int .i64 c.at_) ∧ W.cell? ⟨g, j * 10 + 9, none⟩ = some (.bool c.ro) :=
  ⟨h 0 (by omega), h 1 (by omega), h 2 (by omega), h 3 (by omega), h 4 (by omega), h 5 (by omega), h 6 (by omega), h 7 (by omega), h 8 (by omega), h 9 (by omega)⟩
/-- while DeleteFunc runs: i ways are kept of the first j -/
structure DfI (w : World) (g cap : Nat) (ws : List (CW × Value)) (q : CW × Value → Bool) (W : World) (i j : Nat) : Prop where
  cells : ∃ cur, W.heap[g]? = some (.cells cur 123 (0, 0)) ∧ cur.size = cap * 10 ∧ (∀ x, x < i * 10 → cur[x]? = (flatW ((ws.take j).filter fun p => !q p))[x]?) ∧ (∀ x, j * 10 ≤ x → x < ws.length * 10 → cur[x]? = (flatW ws)[x]?)
  len : ((ws.take j).filter fun p => !q p).length = i
  only : Only (fun x => x = g) w W
  lt : g < W.heap.size

section
variable {w W W' : World} {g cap : Nat} {ws : List (CW × Value)} {q : CW × Value → Bool} {i j : Nat}
theorem DfI.below (h : DfI w g cap ws q W i j) (b : Below W.heap.size W W') : DfI w g cap ws q W' i j := by
  obtain ⟨cur, h1, h2⟩ := h.cells
  exact ⟨⟨cur, by rw [b.block g h.lt]; exact h1, h2⟩, h.len, h.only.trans (Only.of_below _ b), Nat.lt_of_lt_of_le h.lt b.size⟩
theorem DfI.way (h : DfI w g cap ws q W i j) (p : CW × Value) (hp : ws[j]? = some p) : WayAt W g j p.1 p.2 := by
  obtain ⟨cur, h1, h2, _, h4⟩ := h.cells
  have hj : j < ws.length := (List.getElem?_eq_some_iff.1 hp).1
  intro d hd
  have e := flat_get (fun p : CW × Value => wayVals p.1 p.2) 10 wayVals_length ws j p hp d hd
  have := h4 (j * 10 + d) (by omega) (by omega)
  rw [← e, ← this]
  simp [World.cell?, h1]
theorem take_next (p : CW × Value) (hp : ws[j]? = some p) : (ws.take (j + 1)).filter (fun p => !q p) = (ws.take j).filter (fun p => !q p) ++ (if q p then [] else [p]) := by
  rw [List.take_add_one, hp, List.filter_append]
  congr 1
  cases h : q p <;> simp [h]
theorem DfI.skip (h : DfI w g cap ws q W i j) (p : CW × Value) (hp : ws[j]? = some p) (hq : q p = true) : DfI w g cap ws q W i (j + 1) := by
  obtain ⟨cur, h1, h2, h3, h4⟩ := h.cells
  have e := take_next (q := q) p hp
  rw [hq, if_pos rfl, List.append_nil] at e
  exact ⟨⟨cur, h1, h2, fun x hx => by rw [e]; exact h3 x hx, fun x hx hx2 => h4 x (by omega) hx2⟩, by rw [e]; exact h.len, h.only, h.lt⟩
theorem DfI.put (h : DfI w g cap ws q W i j) (p : CW × Value) (hp : ws[j]? = some p) (hq : q p = false) (hij : i ≤ j) (hcap : ws.length ≤ cap) : DfI w g cap ws q (W.setCells g (i * 10) (wayVals p.1 p.2)) (i + 1) (j + 1) := by
  obtain ⟨cur, h1, h2, h3, h4⟩ := h.cells
  have hj : j < ws.length := (List.getElem?_eq_some_iff.1 hp).1
  have e := take_next (q := q) p hp
  rw [hq, if_neg (by decide)] at e
  have hlen := h.len
  have hl : (wayVals p.1 p.2).length = 10 := rfl
  have hfl : (flatW ((ws.take j).filter fun p => !q p)).length = i * 10 := by rw [flatW_len, hlen]
  obtain ⟨c, g1, g2, g3⟩ := block_setCells (wayVals p.1 p.2) (i * 10) W cur h1
  refine ⟨⟨c, g1, g2.trans h2, fun x hx => ?_, fun x hx hx2 => ?_⟩, by rw [e, List.length_append, hlen]; rfl, h.only.setCells g _ _ (.inl rfl), by rw [World.setCells_size]; exact h.lt⟩
  · rw [g3 x (by omega), e]
    show _ = (flatW (_ ++ [p]))[x]?
    rw [flatW, List.flatMap_append, ← flatW]
    by_cases hx1 : x < i * 10
    · rw [if_neg (by omega), List.getElem?_append_left (by rw [hfl]; exact hx1), h3 x hx1]
    · rw [if_pos (by rw [hl]; omega), List.getElem?_append_right (by rw [hfl]; omega), hfl]
      simp
  · rw [g3 x (by omega), if_neg (by rw [hl]; omega), h4 x (by omega) hx2]
end
/-- the first way that goes, or -1 -/
def FstR (ws : List (CW × Value)) (q : CW × Value → Bool) (r : Int) : Prop :=
  (r = -1 ∧ ∀ p ∈ ws, q p = false) ∨ ∃ i : Nat, r = i ∧ i < ws.length ∧ (∀ j p, j < i → ws[j]? = some p → q p = false) ∧ ∀ p, ws[i]? = some p → q p = true

set_option maxHeartbeats 2000000 in
theorem index91 (bb gn capn : Nat) (l : List Int) (lo : Nat) (v : Value) (ws : List (CW × Value)) (w : World) (h : Nums w gn l) (hl : l.length ≤ 1000) (hgl : gn < w.heap.size) (hb : w.cell? ⟨bb, 0, none⟩ = some (.slice (some ⟨gn, 0, none⟩) l.length capn)) (hbl : bb < w.heap.size)
    (ho : w.ownsRow lo 123 10 v ws.length (flatW ws)) (hns : ∀ p ∈ ws, Ints w lo p.2 p.1.ns) (hn : ∀ p ∈ ws, p.1.ns.length ≤ 1000) (h64 : ws.length ≤ 64) :
    Calls Tryd.prog 91 #[v, .func (.func 76) #[] #[.pointer (some ⟨bb, 0, none⟩)]] w fun e w' => (∃ r : Int, e = .returned (.int .i64 r) ∧ FstR ws (fun p => thr l p.1.ns) r) ∧ Below w.heap.size w w' := by
  have TD := Lib.hid (fun (W : World) (b : Below w.heap.size w W) (p : CW × Value) (hp : p ∈ ws) => told76 bb gn capn l lo p.1 p.2 W (h.of (b.block gn hgl)) hl (Nat.lt_of_lt_of_le hgl b.size) ((World.cell?_of_block (w := w) (w' := W) (a := ⟨bb, 0, none⟩) (b.block bb hbl)).trans hb) (Nat.lt_of_lt_of_le hbl b.size) ((hns p hp).of fun x hx => b.block x ((hns p hp).lt x hx).2) (hn p hp))
  have HO := Lib.hid ho
  have HNS := Lib.hid hns
  obtain ⟨A, cp, rfl⟩ : ∃ A cp, v = .slice A ws.length cp := by
    rcases ho.2 with ⟨h1, h2⟩ | ⟨g, cap, cur, rfl, _⟩
    · exact ⟨none, 0, by rw [h1, h2]⟩
    · exact ⟨_, cap, rfl⟩
  clear h hb hns hn ho
  go_enter Tryd.func91, Tryd.ntmps91
  go_wp2
  go_loopw [8] (fun t wr => ∃ i : Nat, i ≤ ws.length ∧ t = .int .i64 i ∧ (∀ j p, j < i → ws[j]? = some p → thr l p.1.ns = false) ∧ Hid (Below w.heap.size w wr)) (fun t _ => ws.length - (intOf t).toNat)
  case atStart => exact ⟨0, by omega, rfl, fun j p hj => absurd hj (Nat.not_lt_zero j), Below.refl _ _⟩
  case round =>
    obtain ⟨i, hi, rfl, hno, HB⟩ := hrel
    have HNO := Lib.hid hno
    clear hno
    by_cases hil : i < ws.length
    · obtain ⟨⟨c, v⟩, hcv⟩ : ∃ p, ws[i]? = some p := ⟨ws[i], List.getElem?_eq_getElem hil⟩
      have hmem := List.mem_of_getElem? hcv
      obtain ⟨B, cv, rfl⟩ : ∃ B cv, v = .slice B c.ns.length cv := (HNS.out _ hmem).arr
      have hor : wr.ownsRow lo 123 10 (.slice A ws.length cp) ws.length (flatW ws) := ownsRow_same HO.out (fun g hg => HB.out.block g (World.ownsRow.lt HO.out g hg).2)
      obtain ⟨g, rfl⟩ : ∃ g, A = some ⟨g, 0, none⟩ := by
        rcases hor.2 with ⟨h1, h2⟩ | ⟨g, cap, cur, h1, _⟩
        · omega
        · cases h1; exact ⟨g, rfl⟩
      have hway : WayAt wr g i c (.slice B c.ns.length cv) := fun d hd => by
        have e := flat_get (fun p : CW × Value => wayVals p.1 p.2) 10 wayVals_length ws i _ hcv d hd
        obtain ⟨u, hu⟩ : ∃ u, (wayVals c (.slice B c.ns.length cv))[d]? = some u := ⟨_, List.getElem?_eq_getElem (by simpa [wayVals] using hd)⟩
        have := World.ownsRow.cells hor (g := g) rfl (i * 10 + d) u (by rw [e]; exact hu)
        rw [Addr.add_mid, Nat.zero_add] at this
        rw [this, hu]
      obtain ⟨y0, y1, y2, y3, y4, y5, y6, y7, y8, y9⟩ := hway.facts
      have HCV := Lib.hid hcv
      have TZ := Lib.hid (TD.out wr HB.out (c, .slice B c.ns.length cv) hmem)
      have hb : decide ((i : Int) < (ws.length : Int)) = true := by simp; omega
      clear hcv hmem hor hway
      go_wp2_with (fail)
      go_at_call 76
      refine (TZ.out).mono ?_
      rintro e w5 ⟨rfl, hb5⟩
      have HB5 := Lib.hid (HB.out.trans (hb5.mono HB.out.size))
      clear hb5 y0 y1 y2 y3 y4 y5 y6 y7 y8 y9 TZ
      by_cases hq : thr l c.ns = true
      · rw [show thr l (c, Value.slice B c.ns.length cv).1.ns = true from hq]
        have HQ := Lib.hid hq
        clear hq
        go_wp2
        go_ret
        exact ⟨⟨i, rfl, .inr ⟨i, rfl, hil, HNO.out, fun p hp => by have := HCV.out.symm.trans hp; simp at this; rw [← this]; exact HQ.out⟩⟩, HB5.out⟩
      · have hq2 : thr l c.ns = false := by simpa using hq
        rw [show thr l (c, Value.slice B c.ns.length cv).1.ns = false from hq2]
        have HQ := Lib.hid hq2
        clear hq hq2
        go_wp2
        go_roundw
        case rel => exact ⟨i + 1, by omega, by go_num, fun j p hj hp => by
          by_cases e : j = i
          · subst e
            have := HCV.out.symm.trans hp
            simp at this
            rw [← this]
            exact HQ.out
          · exact HNO.out j p (by omega) hp, HB5⟩
        case measure => simp [intOf]; omega
    · obtain rfl : i = ws.length := by omega
      have hb : decide ((ws.length : Int) < (ws.length : Int)) = false := by simp
      go_wp2
      go_ret
      refine ⟨⟨-1, rfl, .inl ⟨rfl, fun p hp => ?_⟩⟩, HB.out⟩
      obtain ⟨j, hj, e⟩ := List.getElem_of_mem hp
      exact HNO.out j p hj (by rw [List.getElem?_eq_getElem hj, e])

/-- what DeleteFunc leaves -/
def DelF (w : World) (lo : Nat) (v : Value) (ws : List (CW × Value)) (e : Ending) (w' : World) : Prop :=
  ∃ v', e = .returned v' ∧ w'.ownsRow lo 123 10 v' ws.length (flatW ws) ∧ v'.ownBlock = v.ownBlock ∧ Only (fun x => v.ownBlock = some x) w w'

set_option maxRecDepth 100000 in
set_option maxHeartbeats 4000000 in
theorem delete75 (bb gn capn : Nat) (l : List Int) (lo : Nat) (v : Value) (ws : List (CW × Value)) (w : World) (h : Nums w gn l) (hl : l.length ≤ 1000) (hgl : gn < w.heap.size) (hb : w.cell? ⟨bb, 0, none⟩ = some (.slice (some ⟨gn, 0, none⟩) l.length capn)) (hbl : bb < w.heap.size)
    (ho : w.ownsRow lo 123 10 v ws.length (flatW ws)) (hns : ∀ p ∈ ws, Ints w lo p.2 p.1.ns) (hn : ∀ p ∈ ws, p.1.ns.length ≤ 1000) (h64 : ws.length ≤ 64) (hg1 : v.ownBlock ≠ some gn) (hg2 : v.ownBlock ≠ some bb) (hne : ∀ p ∈ ws, ∀ g, p.2.ownBlock = some g → v.ownBlock ≠ some g) :
    Calls Tryd.prog 75 #[v, .func (.func 76) #[] #[.pointer (some ⟨bb, 0, none⟩)]] w (DelF w lo v (ws.filter fun p => !thr l p.1.ns)) := by
  have IX := Lib.hid (index91 bb gn capn l lo v ws w h hl hgl hb hbl ho hns hn h64)
  have TD := Lib.hid (fun (W : World) (b : Only (fun x => v.ownBlock = some x) w W) (p : CW × Value) (hp : p ∈ ws) => told76 bb gn capn l lo p.1 p.2 W (h.of (b.block gn hgl hg1)) hl (Nat.lt_of_lt_of_le hgl b.size) ((World.cell?_of_block (w := w) (w' := W) (a := ⟨bb, 0, none⟩) (b.block bb hbl hg2)).trans hb) (Nat.lt_of_lt_of_le hbl b.size) ((hns p hp).of fun x hx => b.block x ((hns p hp).lt x hx).2 (hne p hp x hx)) (hn p hp))
  have HO := Lib.hid ho
  have HNS := Lib.hid hns
  obtain ⟨A, cp, rfl⟩ : ∃ A cp, v = .slice A ws.length cp := by
    rcases ho.2 with ⟨h1, h2⟩ | ⟨g, cap, cur, rfl, _⟩
    · exact ⟨none, 0, by rw [h1, h2]⟩
    · exact ⟨_, cap, rfl⟩
  clear h hb hns hn ho hg1 hg2 hne
  go_enter Tryd.func75, Tryd.ntmps75
  go_wp2_with (fail)
  go_at_call 91
  refine (IX.out).mono ?_
  rintro e w1 ⟨⟨r, rfl, hr⟩, hb1⟩
  rcases hr with ⟨rfl, hall⟩ | ⟨i, rfl, hi, hbef, hat⟩
  · have e : (ws.filter fun p => !thr l p.1.ns) = ws := List.filter_eq_self.2 fun p hp => by
      show (!thr l p.1.ns) = true
      rw [show thr l p.1.ns = false from hall p hp]; rfl
    have HE := Lib.hid e
    have B1 := Lib.hid hb1
    clear hb1 hall e
    go_wp2
    go_ret
    refine ⟨_, rfl, ?_, rfl, Only.of_below _ B1.out⟩
    rw [HE.out]
    exact ownsRow_same HO.out (fun g hg => B1.out.block g (World.ownsRow.lt HO.out g hg).2)
  · obtain ⟨g, rfl⟩ : ∃ g, A = some ⟨g, 0, none⟩ := by
      rcases HO.out.2 with ⟨h1, h2⟩ | ⟨g, cap, cur, h1, _⟩
      · omega
      · cases h1; exact ⟨g, rfl⟩
    obtain ⟨cur, hg, hlf, hlo, hncap, hm, hs, hx⟩ := own_parts HO.out
    obtain ⟨q, hq⟩ : ∃ q : CW × Value → Bool, q = fun p => thr l p.1.ns := ⟨_, rfl⟩
    obtain ⟨p0, hp0⟩ : ∃ p, ws[i]? = some p := ⟨ws[i], List.getElem?_eq_getElem hi⟩
    have ht : (ws.take i).filter (fun p => !q p) = ws.take i := List.filter_eq_self.2 fun p hp => by
      obtain ⟨j, hj, e⟩ := List.getElem_of_mem hp
      rw [List.length_take] at hj
      rw [List.getElem_take] at e
      rw [hq]
      have := hbef j p (by omega) (by rw [List.getElem?_eq_getElem (by omega), e])
      show (!thr l p.1.ns) = true
      rw [show thr l p.1.ns = false from this]; rfl
    have gl : g < w.heap.size := (World.ownsRow.lt HO.out g rfl).2
    have S0 : DfI w g cp ws q w1 i i := by
      refine ⟨⟨cur, by rw [hb1.block g gl]; exact hg, hs, fun x hx1 => ?_, fun x hx1 hx2 => hx x hx2⟩, by rw [ht, List.length_take]; omega, Only.of_below _ hb1, Nat.lt_of_lt_of_le gl hb1.size⟩
      rw [ht, hx x (by omega)]
      have : flatW ws = flatW (ws.take i) ++ flatW (ws.drop i) := by rw [← List.flatMap_append, List.take_append_drop]
      rw [this, List.getElem?_append_left (by rw [flatW_len, List.length_take]; omega)]
    have I0 := Lib.hid (S0.skip p0 hp0 (by rw [hq]; exact hat p0 hp0))
    have HQ := Lib.hid hq
    have e0 : ((i : Int) == -1) = false := by simp
    have HLO := Lib.hid hlo
    have HM := Lib.hid hm
    clear hg hlf hlo hm hs hx hp0 ht S0 hb1 hbef hat hq
    go_wp2_with (fail)
    go_loopw [5, 6] (fun ti tj wr => ∃ i j : Nat, i < j ∧ j ≤ ws.length ∧ ti = .int .i64 i ∧ tj = .int .i64 j ∧ Hid (DfI w g cp ws q wr i j)) (fun _ tj _ => ws.length + 1 - (intOf tj).toNat)
    case atStart => exact ⟨i, i + 1, by omega, by omega, rfl, by go_num, I0⟩
    case round =>
      clear I0
      obtain ⟨i, j, hij, hj, rfl, rfl, I⟩ := hrel
      by_cases hjl : j < ws.length
      · obtain ⟨⟨c, v⟩, hcv⟩ : ∃ p, ws[j]? = some p := ⟨ws[j], List.getElem?_eq_getElem hjl⟩
        have hmem := List.mem_of_getElem? hcv
        obtain ⟨B, cv, rfl⟩ : ∃ B cv, v = .slice B c.ns.length cv := (HNS.out _ hmem).arr
        obtain ⟨y0, y1, y2, y3, y4, y5, y6, y7, y8, y9⟩ := (I.out.way _ hcv).facts
        have HCV := Lib.hid hcv
        have hb : decide ((j : Int) < (ws.length : Int)) = true := by simp; omega
        have I1 := Lib.hid (I.out.below ((Below.refl _ wr).alloc (Nat.le_refl _) (.cells #[.int .i64 c.k.kind, .int .i64 c.k.id, .int .i64 c.k.ver, .int .i64 c.k.rights, .int .u32 c.k.data, .int .u32 c.pg, .slice B c.ns.length cv, .int .i64 c.page, .int .i64 c.at_, .bool c.ro] 123)))
        have TZ := Lib.hid (TD.out _ (I1.out.only.mono fun x _ e => by rw [e]; rfl) (c, .slice B c.ns.length cv) hmem)
        have WN := way_new wr c (.slice B c.ns.length cv)
        have WN0 := Lib.hid WN
        clear hcv hmem WN
        go_wp2_with (fail)
        go_at_call 76
        refine (TZ.out).mono ?_
        rintro e w5 ⟨rfl, hb5⟩
        have I5 := Lib.hid (I1.out.below hb5)
        have WN5 := Lib.hid (WN0.out.below hb5)
        clear hb5 y0 y1 y2 y3 y4 y5 y6 y7 y8 y9 TZ I1
        by_cases hqq : thr l c.ns = true
        · rw [show thr l (c, Value.slice B c.ns.length cv).1.ns = true from hqq]
          have I6 := Lib.hid (I5.out.skip _ HCV.out (by rw [HQ.out]; exact hqq))
          clear hqq
          go_wp2
          go_roundw
          case rel => exact ⟨i, j + 1, by omega, by omega, rfl, by go_num, I6⟩
          case measure => simp [intOf]; omega
        · have hq2 : thr l c.ns = false := by simpa using hqq
          rw [show thr l (c, Value.slice B c.ns.length cv).1.ns = false from hq2]
          have I6 := Lib.hid (I5.out.put _ HCV.out (by rw [HQ.out]; exact hq2) (by omega) hncap)
          obtain ⟨cur, hg, hs, _, _⟩ := I5.out.cells
          have hc : Hid (∀ d, d < 10 → (∃ u, w5.cell? ⟨g, i * 10 + d, none⟩ = some u) ∧ w5.frozen? ⟨g, i * 10 + d, none⟩ = false) := fun d hd => by
            have : i * 10 + d < cur.size := by omega
            simp [World.cell?, World.frozen?, hg, this]
          obtain ⟨⟨u0, k0⟩, f0⟩ := hc.out 0 (by omega)
          obtain ⟨⟨u1, k1⟩, f1⟩ := hc.out 1 (by omega)
          obtain ⟨⟨u2, k2⟩, f2⟩ := hc.out 2 (by omega)
          obtain ⟨⟨u3, k3⟩, f3⟩ := hc.out 3 (by omega)
          obtain ⟨⟨u4, k4⟩, f4⟩ := hc.out 4 (by omega)
          obtain ⟨⟨u5, k5⟩, f5⟩ := hc.out 5 (by omega)
          obtain ⟨⟨u6, k6⟩, f6⟩ := hc.out 6 (by omega)
          obtain ⟨⟨u7, k7⟩, f7⟩ := hc.out 7 (by omega)
          obtain ⟨⟨u8, k8⟩, f8⟩ := hc.out 8 (by omega)
          obtain ⟨⟨u9, k9⟩, f9⟩ := hc.out 9 (by omega)
          simp only [Nat.add_zero] at k0 f0
          have x0 := WN5.out.cell 0 (by omega)
          have x1 := WN5.out.cell 1 (by omega)
          have x2 := WN5.out.cell 2 (by omega)
          have x3 := WN5.out.cell 3 (by omega)
          have x4 := WN5.out.cell 4 (by omega)
          have x5 := WN5.out.cell 5 (by omega)
          have x6 := WN5.out.cell 6 (by omega)
          have x7 := WN5.out.cell 7 (by omega)
          have x8 := WN5.out.cell 8 (by omega)
          have x9 := WN5.out.cell 9 (by omega)
          simp only [wayCell] at x0 x1 x2 x3 x4 x5 x6 x7 x8 x9
          have ilt : i < ws.length := by omega
          clear hg hs hqq hq2
          go_wp2
          go_roundw
          case rel => exact ⟨i + 1, j + 1, by omega, by omega, by go_num, by go_num, I6⟩
          case measure => simp [intOf]; omega
      · obtain rfl : j = ws.length := by omega
        have hb : decide ((ws.length : Int) < (ws.length : Int)) = false := by simp
        obtain ⟨cur, hg, hs, hx, _⟩ := I.out.cells
        have hcl : ∀ ty, (Builtin.clear_ #[119] ty #[.slice (some ⟨g, i * 10, none⟩) (ws.length - i) (cp - i)]).run Tryd.prog wr = .ok (.tuple #[]) (wr.setCells g (i * 10) (Builtin.zeroCells zWay.cells (ws.length - i)).toList) :=
          fun ty => clear_ways wr ty g (i * 10) (ws.length - i) _ (by omega) (fun x hx => by
            have : i * 10 + x < cur.size := by omega
            simp [World.cell?, World.frozen?, hg, this])
        have hlen := I.out.len
        rw [List.take_length] at hlen hx
        have O1 : Hid (wr.ownsRow lo 123 10 (.slice (some ⟨g, 0, none⟩) i cp) i (flatW (ws.filter fun p => !q p))) :=
          own_block (by rw [flatW_len, hlen]) HLO.out hg (by omega) HM.out hs (fun x hx1 => hx x hx1)
        have HLEN := Lib.hid hlen
        have hne : ¬ cp = i := by omega
        have hic : i ≤ cp := by omega
        clear hg hs hx hlen
        go_wp2
        go_ret
        have e := HLEN.out
        rw [HQ.out] at e
        have o1 := O1.out
        rw [HQ.out] at o1
        refine ⟨_, rfl, ?_, rfl, (I.out.only.setCells g _ _ (.inl rfl)).mono fun x _ e => by rw [e]; rfl⟩
        rw [e]
        exact own_past o1 _ _ (Nat.le_refl _)

/-- Forget -/
def ForgetL (w0 : World) (S : SA) (cb : Nat) (D : SC) (size hits : Int) (cs : List CW) (X : Nat → Prop) (W : World) (e : Ending) (W' : World) : Prop :=
  e = .returned (.tuple #[]) ∧ Lk w0 S cb D size hits cs X W' ∧ Keep X W W'
set_option maxHeartbeats 1000000 in
theorem lk_forget {w0 : World} {S : SA} {cb : Nat} {D : SC} {size hits : Int} {cs : List CW} {X : Nat → Prop} {W : World} (gn capn : Nat) (l : List Int) (h : Lk w0 S cb D size hits cs X W) (hN : Nums W gn l) (hl : l.length ≤ 1000) (hx : X gn) (hn : ∀ c ∈ cs, c.ns.length ≤ 1000) :
    Calls Tryd.prog 48 #[.pointer (some ⟨cb, 0, none⟩), .slice (some ⟨gn, 0, none⟩) l.length capn] W (ForgetL w0 S cb D size hits (cs.filter fun c => !thr l c.ns) X W) := by
  have hcw := h.cw
  have hgn := (h.hX gn hx).1
  have hl1 := h.new (.cells #[.slice (some ⟨gn, 0, none⟩) l.length capn] 62)
  obtain ⟨lo, v, ws, hc, e1, e2, e3⟩ := hl1.ca
  have hN1 : Nums (W.alloc (.cells #[.slice (some ⟨gn, 0, none⟩) l.length capn] 62)) gn l := hN.of (Below.heap_alloc W _ gn hgn)
  have hlen : ws.length = cs.length := by rw [← e1, List.length_map]
  have hbx := Row.one W (.slice (some ⟨gn, 0, none⟩) l.length capn) 62
  have DL := delete75 W.heap.size gn capn l lo v ws _ hN1 hl (by simp; omega) (hbx.cell 0 (by omega)) hbx.lt hc.row hc.ns (fun p hp => hn p.1 (by rw [← e1]; exact List.mem_map_of_mem hp)) (by have := h.len; have := h.s64; omega) (e2 gn (.inl hx)) (e2 _ (.inr rfl)) hc.ne
  have c1 := hc.c1
  obtain ⟨W1, hW1⟩ : ∃ W1, W1 = W.alloc (.cells #[.slice (some ⟨gn, 0, none⟩) l.length capn] 62) := ⟨_, rfl⟩
  rw [← hW1] at hl1 hc DL c1
  have H := Lib.hid h
  have HL1 := Lib.hid hl1
  have HC := Lib.hid hc
  have HDL := Lib.hid DL
  have HE1 := Lib.hid e1
  have HE2 := Lib.hid e2
  have HE3 := Lib.hid e3
  have HW1 := Lib.hid hW1
  have hvb : Hid (∀ x, v.ownBlock = some x → cb < x ∧ x < W1.heap.size) := fun x e => ⟨Nat.lt_of_lt_of_le hc.lt (World.ownsRow.lt hc.row x e).1, (World.ownsRow.lt hc.row x e).2⟩
  obtain ⟨A, cp, rfl⟩ : ∃ A cp, v = .slice A ws.length cp := by
    obtain ⟨A, cap, e, _⟩ := hc.arr
    exact ⟨A, cap, e⟩
  have c1' : (W.alloc (.cells #[.slice (some ⟨gn, 0, none⟩) l.length capn] 62)).cell? ⟨cb, 1, none⟩ = some (.slice A ws.length cp) := by rw [← hW1]; exact c1
  clear h hl1 hc DL e1 e2 e3 hW1 hN hN1 hbx hlen c1 hx hn
  go_enter Tryd.func48, Tryd.ntmps48
  go_wp2_with (fail)
  rw [← HW1.out]
  go_at_call 75
  refine (HDL.out).mono ?_
  rintro e w5 ⟨v', rfl, ho5, hb5, hon⟩
  have hd5 : Row w5 cb 3 (caCell size (.slice A ws.length cp) hits) := HC.out.hd.only hon (fun e => by have := (hvb.out cb e).1; omega)
  have c5 := hd5.cell 1 (by omega)
  have f5 := hd5.frozen 1
  simp only [caCell] at c5
  obtain ⟨A2, cp2, rfl⟩ : ∃ A2 cp2, v' = .slice A2 (ws.filter fun p => !thr l p.1.ns).length cp2 := by
    rcases ho5.2 with ⟨h1, h2⟩ | ⟨g, cap, cur, rfl, _⟩
    · exact ⟨none, 0, by rw [h1, h2]⟩
    · exact ⟨_, cap, rfl⟩
  have HO5 := Lib.hid ho5
  have HB5 := Lib.hid hb5
  have HON := Lib.hid hon
  have HD5 := Lib.hid hd5
  clear ho5 hb5 hon hd5
  go_wp2
  go_end0
  have lc := HC.out.lt
  have lh := HC.out.le
  have lw := HC.out.hd.lt
  have sb : ∀ x, x < W1.heap.size → (Value.slice A ws.length cp).ownBlock ≠ some x → x ≠ cb → (w5.setCell ⟨cb, 1, none⟩ (.slice A2 (ws.filter fun p => !thr l p.1.ns).length cp2)).heap[x]? = W1.heap[x]? := fun x h1 h2 h3 => (Below.heap_setCell _ _ _ _ h3).trans (HON.out.block x h1 h2)
  have o : Only (fun x => x = cb ∨ (Value.slice A ws.length cp).ownBlock = some x) W1 (w5.setCell ⟨cb, 1, none⟩ (.slice A2 (ws.filter fun p => !thr l p.1.ns).length cp2)) := (HON.out.mono fun _ _ e => .inr e).setCell ⟨cb, 1, none⟩ _ (.inl (.inl rfl))
  have hmap : (ws.filter fun p => !thr l p.1.ns).map (·.1) = cs.filter fun c => !thr l c.ns := by
    rw [← HE1.out, List.filter_map]
    rfl
  have hb5' := HB5.out
  have k1 : Keep (fun x => X x ∨ x = W.heap.size) W1 (w5.setCell ⟨cb, 1, none⟩ (.slice A2 (ws.filter fun p => !thr l p.1.ns).length cp2)) := ⟨o.size, fun x hx => o.block x (HL1.out.hX x hx).1 (by
    rintro (e | e)
    · exact (HL1.out.hX x hx).2.1 e
    · exact HE2.out x hx e)⟩
  have kk : Keep X W (w5.setCell ⟨cb, 1, none⟩ (.slice A2 (ws.filter fun p => !thr l p.1.ns).length cp2)) := by
    have k0 : Keep X W W1 := by rw [HW1.out]; exact H.out.keep_below ((Below.refl _ W).alloc (Nat.le_refl _) _)
    exact k0.trans (k1.less fun x hx => .inl hx)
  refine ⟨rfl, ⟨HL1.out.sto.only o ?_, HL1.out.hS, below_only HL1.out.bel HL1.out.bel.size o ?_, HL1.out.dB, HL1.out.cB, fun x hx => ⟨Nat.lt_of_lt_of_le (HL1.out.hX x (.inl hx)).1 o.size, (HL1.out.hX x (.inl hx)).2⟩, ⟨lo, .slice A2 (ws.filter fun p => !thr l p.1.ns).length cp2, ws.filter fun p => !thr l p.1.ns, ⟨?_, ?_, ?_, ?_, lc, Nat.le_trans lh o.size⟩, hmap, ?_, ?_⟩, HL1.out.s1, HL1.out.s64, ?_⟩, kk⟩
  · rintro x hx (e | e)
    · have := HL1.out.hS x hx; omega
    · have := HL1.out.hS x hx; have := (hvb.out x e).1; omega
  · rintro x _ (e | e)
    · have := HL1.out.cB; omega
    · have := HL1.out.cB; have := (hvb.out x e).1; omega
  · exact (HD5.out.set 1 _).congr fun i hi => by rcases (by omega : i = 0 ∨ i = 1 ∨ i = 2) with rfl | rfl | rfl <;> rfl
  · exact ownsRow_same HO5.out (fun x e => Below.heap_setCell _ _ _ _ (fun e' => by
      have h1 := (hvb.out x (by rw [← hb5']; exact e)).1
      have h2 : x = cb := e'
      omega))
  · intro p hp
    have hm := (List.mem_filter.1 hp).1
    exact (HC.out.ns p hm).of fun x e => sb x ((HC.out.ns p hm).lt x e).2 (HC.out.ne p hm x e) (by have := ((HC.out.ns p hm).lt x e).1; omega)
  · intro p hp x e e'
    exact HC.out.ne p (List.mem_filter.1 hp).1 x e (by rw [← hb5']; exact e')
  · intro x hx e
    exact HE2.out x (.inl hx) (by rw [← hb5']; exact e)
  · intro p hp x hx e
    exact HE3.out p (List.mem_filter.1 hp).1 x (.inl hx) e
  · have h1 := List.length_filter_le (fun c : CW => !thr l c.ns) cs
    have := H.out.len
    omega
end Go.Proofs.YtdlemkmkheokkaaDoor
