/- Contracts of the nodes' Fits and Make, with no key and with one. -/
import Derived.Test.YtdlemkmkheokkaaDoorWb
import Derived.Test.YtdlemkmkheokkaaDoorWc
import Derived.Test.YtdlemkmkheokkaaDoorWd
import Derived.Test.YtdlemkmkheokkaaDoorL
namespace Go.Proofs.YtdlemkmkheokkaaDoor
open Go.RowKit

set_option maxHeartbeats 400000 in
theorem fits0 (w : World) : Calls Tryd.prog 55 #[.slice none 0 0] w fun e w' => e = .returned .nilIface ∧ w = w' := by
  go_enter Tryd.func55, Tryd.ntmps55
  go_wp2
  go_loop [12] (fun t => t = .int .i64 0) (fun _ => 1)
  case atStart => rfl
  case round =>
    subst hrel
    go_wp2
    go_ret
    exact ⟨rfl, rfl⟩

set_option maxHeartbeats 400000 in
theorem fits1 (b : Nat) (k : K) (w : World) (h : Row w b 5 k.cell) (hk : okK k) : Calls Tryd.prog 55 #[.slice (some ⟨b, 0, none⟩) 1 1] w (NilBelow w) := by
  have c0 := h.cell 0 (by omega)
  have c1 := h.cell 1 (by omega)
  have c2 := h.cell 2 (by omega)
  have c3 := h.cell 3 (by omega)
  have c4 := h.cell 4 (by omega)
  simp only [K.cell] at c0 c1 c2 c3 c4
  have VT := Lib.hid (fun W => valid_any k W hk)
  have hl := h.lt
  clear h
  go_enter Tryd.func55, Tryd.ntmps55
  go_wp2
  go_loopw [12] (fun t wr => (t = .int .i64 0 ∧ wr = w) ∨ (t = .int .i64 1 ∧ Below w.heap.size w wr)) (fun t _ => (1 - intOf t).toNat)
  case atStart => exact .inl ⟨rfl, rfl⟩
  case round =>
    rcases hrel with ⟨rfl, rfl⟩ | ⟨rfl, hb⟩
    · go_wp2_with (go_at_call 59; refine (VT.out _).mono ?_; rintro e w1 ⟨rfl, hb1⟩)
      go_roundw
      case rel =>
        refine .inr ⟨rfl, ?_⟩
        exact ((Below.refl _ _).alloc (Nat.le_refl _) _).trans (hb1.mono (by simp))
      case measure => simp [intOf]
    · go_wp2
      go_ret
      exact ⟨rfl, hb⟩

def nodeKeys (m : Nat) (k : K) : Nat → K := fun s => if s < m then k else K.zero
/-- a node is made -/
def MadeN (w : World) (A : NA) (n : Nat) (c : AC) (nk : Nat → Nat → K) (i m : Nat) (k : K) (e : Ending) (w' : World) : Prop :=
  e = .returned (.tuple #[.int .i64 i, .int .i64 (c.ve i), .nilIface]) ∧ No w' A n (c.take i) (up nk i (nodeKeys m k)) ∧ Only (fun x => x = A.l ∨ x = A.k) w w'

theorem K.one (k : K) (i : Nat) : (k.cell i).oneCell' = true := by
  unfold K.cell; split <;> rfl

set_option maxRecDepth 100000 in
set_option maxHeartbeats 800000 in
theorem nmake0 (A : NA) (n : Nat) (c : AC) (nk : Nat → Nat → K) (i : Nat) (w : World) (h : No w A n c nk) (hn : n ≤ 1000) (hi : i < n)
    (hold : ∀ j, j < i → c.th j = true) (hth : c.th i = false) (hgo : c.go i = false) :
    Calls Tryd.prog 21 #[.pointer (some ⟨A.b, 0, none⟩), .slice none 0 0] w (MadeN w A n c nk i 0 K.zero) := by
  have TK := Lib.hid (arena_take A.a A.l n c i w h.ar hn h.ok.al hi hold hth hgo)
  have h1 := h.p0
  have H := Lib.hid h
  clear h hold hth hgo
  go_enter Tryd.func21, Tryd.ntmps21
  go_wp2_with (go_at_call 55; refine (fits0 _).mono ?_; rintro e w' ⟨rfl, rfl⟩)
  go_at_call 52
  refine (TK.out).mono ?_
  rintro e w1 ⟨rfl, har, hon⟩
  have HAR := Lib.hid har
  have HON := Lib.hid hon
  clear har hon
  go_wp2_with (first | (refine wpList_alloc_big rfl 109 rfl zs80 zero109 ?_) | (refine wpList_copy_none rfl (.tmp 29) (.tmp 30) 104 104 rfl 36 Tryd.underlying104 (by rw [size36]; rfl) ⟨w1.heap.size, 0, none⟩ 16 16 rfl rfl ?_))
  obtain ⟨W2, hW2⟩ : ∃ W2, W2 = w1.alloc (.cells zs80 109) := ⟨_, rfl⟩
  rw [← hW2]
  have HW2 := Lib.hid hW2
  clear hW2
  have on2 : Only (fun _ => False) w1 W2 := by
    rw [HW2.out]
    exact (Only.refl _ _).alloc _
  have rw2 : Row W2 w1.heap.size 80 (fun j => (nodeKeys 0 K.zero (j / 5)).cell (j % 5)) := by
    rw [HW2.out]
    exact (Row.new w1 zs80 109 80 _ (by simp [zs80]) zs80_get).congr fun j hj => by simp [nodeKeys]
  have no1 : No w1 A n (c.take i) nk := ⟨H.out.hd.only HON.out H.out.ok.bl, HAR.out, H.out.ks.only HON.out (fun e => H.out.ok.lk e.symm), H.out.ok⟩
  have no2 := no1.only on2 (fun _ _ h => h)
  obtain ⟨zs, hzs⟩ : ∃ zs : List Value, zs = (List.range 80).map fun j => (nodeKeys 0 K.zero (j / 5)).cell (j % 5) := ⟨_, rfl⟩
  have hrange : W2.rangeAt w1.heap.size 0 zs := by rw [hzs]; exact rw2.range
  have hlen : zs.length = 80 := by rw [hzs]; simp
  have hsz : (Tryd.prog.info? 109).map (·.size) = some zs.length := by rw [hlen]; exact size109
  have hsz2 : (Tryd.prog.info? 109).map (·.size) = some zs.toArray.size := by rw [List.size_toArray]; exact hsz
  have hone : zs.toArray.all (·.oneCell') = true := all_oneCell_toArray (by intro v hv; rw [hzs] at hv; simp at hv; obtain ⟨j, _, rfl⟩ := hv; exact K.one _ _)
  have hthere : W2.there A.k (i * 80) zs.toArray.size := by
    have := no2.ks.there (i * 80) 80 (by omega)
    rw [List.size_toArray, hlen]; exact this
  have q1 := no2.p1
  have ON2 := Lib.hid on2
  have NO2 := Lib.hid no2
  have HZS := Lib.hid hzs
  have HRANGE := Lib.hid hrange
  have HLEN := Lib.hid hlen
  have HSZ := Lib.hid hsz
  have HSZ2 := Lib.hid hsz2
  have HONE := Lib.hid hone
  have HTHERE := Lib.hid hthere
  clear on2 no1 no2 rw2 hzs hrange hlen hsz hsz2 hone hthere
  refine wp_region_still_tail 7 (by kernel_rfl) (by kernel_rfl) ?_
  simp only [List.take_succ_cons, List.take_zero, List.drop_succ_cons, List.drop_zero]
  iterate 5 still_step
  refine wpStill_load_big rfl 109 (.tmp 11) rfl w1.heap.size 0 rfl zs _ (show World.rangeAt _ _ _ _ from HRANGE.out) Tryd.underlying109 rfl HSZ.out ?_
  still_step
  refine wpStill_nil ?_
  change wpList _ _ _ _ _ W2.drew
  refine wpList_store_mid rfl 109 (.tmp 38) (.tmp 37) rfl A.k (i * 80) zs.toArray rfl rfl (show World.there W2.drew _ _ _ from HTHERE.out) HSZ2.out HONE.out ?_
  obtain ⟨W3, hW3⟩ : ∃ W3, W3 = W2.drew.setCells A.k (i * 80) zs.toArray.toList := ⟨_, rfl⟩
  rw [← hW3]
  have HW3 := Lib.hid hW3
  clear hW3
  go_wp2
  go_ret3
  have e3 : W3 = W2.drew.setCells A.k (i * 80) zs := HW3.out
  refine ⟨rfl, ?_, ?_⟩
  · rw [e3]
    have p2 : No W2.drew A n (c.take i) nk := NO2.out.same rfl
    have on3 : Only (fun x => x = A.k) W2.drew (W2.drew.setCells A.k (i * 80) zs) := (Only.refl _ _).setCells _ _ _ (.inl rfl)
    refine ⟨p2.hd.only on3 p2.ok.bk, p2.ar.only on3 p2.ok.ak p2.ok.lk, (p2.ks.setCells zs (i * 80) _ _).congr fun j hj => ?_, p2.ok⟩
    rw [HLEN.out]
    by_cases hjm : i * 80 ≤ j ∧ j < i * 80 + 80
    · have h1 : j / 80 = i := by omega
      have h2 : j - i * 80 = j % 80 := by omega
      have h3 : j % 80 < 80 := Nat.mod_lt _ (by omega)
      have h4 : j % 80 % 5 = j % 5 := by omega
      rw [if_pos hjm, HZS.out, h2]
      simp [slotCell, h1, up_same, h3, h4]
    · have h1 : j / 80 ≠ i := by omega
      rw [if_neg hjm]
      simp [slotCell, up_other _ _ _ _ h1]
  · rw [e3]
    have o1 : Only (fun x => x = A.l ∨ x = A.k) w W2 := (HON.out.mono fun k _ h => .inl h).trans (ON2.out.mono fun k _ h => h.elim)
    exact o1.drew.setCells _ _ _ (.inl (.inr rfl))

theorem keyList_get (k : K) (j : Nat) (v : Value) (h : ((List.range 5).map k.cell)[j]? = some v) : j < 5 ∧ v = k.cell j := by
  by_cases hj : j < 5
  · simp [hj] at h; exact ⟨hj, h.symm⟩
  · simp [hj] at h

set_option maxRecDepth 100000 in
set_option maxHeartbeats 800000 in
theorem nmake1 (A : NA) (n : Nat) (c : AC) (nk : Nat → Nat → K) (i kb : Nat) (k : K) (w : World) (h : No w A n c nk) (hn : n ≤ 1000) (hi : i < n)
    (hold : ∀ j, j < i → c.th j = true) (hth : c.th i = false) (hgo : c.go i = false) (hk : okK k) (hkb : Row w kb 5 k.cell) (had : kb ≠ A.l) :
    Calls Tryd.prog 21 #[.pointer (some ⟨A.b, 0, none⟩), .slice (some ⟨kb, 0, none⟩) 1 1] w (MadeN w A n c nk i 1 k) := by
  have FT := Lib.hid (fits1 kb k w hkb hk)
  have H0 := Lib.hid h
  have HKB := Lib.hid hkb
  have HK := Lib.hid hk
  have HOLD := Lib.hid hold
  have HTH := Lib.hid hth
  have HGO := Lib.hid hgo
  obtain ⟨cs, hcs⟩ : ∃ cs, cs = (List.range 5).map k.cell := ⟨_, rfl⟩
  have hmin : Nat.min 1 16 = 1 := rfl
  have HN' : Hid (cs.length = Nat.min 1 16 * 5) := Lib.hid (by rw [hcs, hmin]; simp)
  have H1' : Hid (∀ v ∈ cs, v.oneCell' = true) := by
    intro v hv; rw [hcs] at hv; simp at hv; obtain ⟨j, _, rfl⟩ := hv; exact K.one _ _
  have HCS := Lib.hid hcs
  clear h hkb hk hold hth hgo hcs hmin
  go_enter Tryd.func21, Tryd.ntmps21
  go_wp2_with (fail)
  go_at_call 55
  refine (FT.out).mono ?_
  rintro e w0 ⟨rfl, hb0⟩
  have h0 := H0.out.below hb0
  have TK := Lib.hid (arena_take A.a A.l n c i w0 h0.ar hn h0.ok.al hi HOLD.out HTH.out HGO.out)
  have h1 := h0.p0
  have H := Lib.hid h0
  have HB0 := Lib.hid hb0
  have HKB0 := Lib.hid (HKB.out.below hb0)
  clear h0 hb0
  go_wp2_with (fail)
  go_at_call 52
  refine (TK.out).mono ?_
  rintro e w1 ⟨rfl, har, hon⟩
  have HSRC : Hid (∀ j v, cs[j]? = some v → (w1.alloc (.cells zs80 109)).cell? ((⟨kb, 0, none⟩ : Addr).add j) = some v) := by
    intro j v hv
    rw [HCS.out] at hv
    obtain ⟨hj, rfl⟩ := keyList_get k j v hv
    rw [Addr.add_mid, Nat.zero_add]
    exact ((HKB0.out.only hon had).alloc _).cell j hj
  have HC : Hid (∀ j, j < cs.length → ((w1.alloc (.cells zs80 109)).cell? ⟨w1.heap.size, 0 + j, none⟩).isSome = true) := by
    intro j hj
    have := (Row.new w1 zs80 109 80 _ (by simp [zs80]) zs80_get).cell (0 + j) (by have := HN'.out; simp at this; omega)
    rw [this]; rfl
  have HF : Hid (∀ j, j < cs.length → (w1.alloc (.cells zs80 109)).frozen? ⟨w1.heap.size, 0 + j, none⟩ = false) := by
    intro j _
    exact (Row.new w1 zs80 109 80 _ (by simp [zs80]) zs80_get).frozen _
  have HAR := Lib.hid har
  have HON := Lib.hid hon
  clear har hon
  go_wp2_with (first | (refine wpList_alloc_big rfl 109 rfl zs80 zero109 ?_) | (refine wpList_copy_any rfl (.tmp 29) (.tmp 30) 104 104 rfl 36 5 Tryd.underlying104 size36 w1.heap.size 0 16 16 ⟨kb, 0, none⟩ 1 1 rfl rfl cs HN'.out HSRC.out HC.out HF.out H1'.out ?_; intro W2 HW2))
  have on2 : Only (fun _ => False) w1 W2 := by
    rw [HW2.out]
    exact ((Only.refl _ _).alloc _).setCells _ _ _ (.inr (by omega))
  have rw2 : Row W2 w1.heap.size 80 (fun j => (nodeKeys 1 k (j / 5)).cell (j % 5)) := by
    rw [HW2.out]
    refine (Row.setCells cs 0 _ _ (Row.new w1 zs80 109 80 _ (by simp [zs80]) zs80_get)).congr fun j hj => ?_
    have hl : cs.length = 5 := HN'.out
    unfold nodeKeys
    by_cases hjm : j < 5
    · have h1 : j / 5 = 0 := by omega
      have h2 : j % 5 = j := by omega
      rw [if_pos (by omega), HCS.out, h1, h2]; simp [hjm]
    · rw [if_neg (by omega), if_neg (by omega)]
  have no1 : No w1 A n (c.take i) nk := ⟨H.out.hd.only HON.out H.out.ok.bl, HAR.out, H.out.ks.only HON.out (fun e => H.out.ok.lk e.symm), H.out.ok⟩
  have no2 := no1.only on2 (fun _ _ h => h)
  obtain ⟨zs, hzs⟩ : ∃ zs : List Value, zs = (List.range 80).map fun j => (nodeKeys 1 k (j / 5)).cell (j % 5) := ⟨_, rfl⟩
  have hrange : W2.rangeAt w1.heap.size 0 zs := by rw [hzs]; exact rw2.range
  have hlen : zs.length = 80 := by rw [hzs]; simp
  have hsz : (Tryd.prog.info? 109).map (·.size) = some zs.length := by rw [hlen]; exact size109
  have hsz2 : (Tryd.prog.info? 109).map (·.size) = some zs.toArray.size := by rw [List.size_toArray]; exact hsz
  have hone : zs.toArray.all (·.oneCell') = true := all_oneCell_toArray (by intro v hv; rw [hzs] at hv; simp at hv; obtain ⟨j, _, rfl⟩ := hv; exact K.one _ _)
  have hthere : W2.there A.k (i * 80) zs.toArray.size := by
    have := no2.ks.there (i * 80) 80 (by omega)
    rw [List.size_toArray, hlen]; exact this
  have q1 := no2.p1
  have ON2 := Lib.hid on2
  have NO2 := Lib.hid no2
  have HZS := Lib.hid hzs
  have HRANGE := Lib.hid hrange
  have HLEN := Lib.hid hlen
  have HSZ := Lib.hid hsz
  have HSZ2 := Lib.hid hsz2
  have HONE := Lib.hid hone
  have HTHERE := Lib.hid hthere
  clear on2 no1 no2 rw2 hzs hrange hlen hsz hsz2 hone hthere
  refine wp_region_still_tail 7 (by kernel_rfl) (by kernel_rfl) ?_
  simp only [List.take_succ_cons, List.take_zero, List.drop_succ_cons, List.drop_zero]
  iterate 5 still_step
  refine wpStill_load_big rfl 109 (.tmp 11) rfl w1.heap.size 0 rfl zs _ (show World.rangeAt _ _ _ _ from HRANGE.out) Tryd.underlying109 rfl HSZ.out ?_
  still_step
  refine wpStill_nil ?_
  change wpList _ _ _ _ _ W2.drew
  refine wpList_store_mid rfl 109 (.tmp 38) (.tmp 37) rfl A.k (i * 80) zs.toArray rfl rfl (show World.there W2.drew _ _ _ from HTHERE.out) HSZ2.out HONE.out ?_
  obtain ⟨W3, hW3⟩ : ∃ W3, W3 = W2.drew.setCells A.k (i * 80) zs.toArray.toList := ⟨_, rfl⟩
  rw [← hW3]
  have HW3 := Lib.hid hW3
  clear hW3
  go_wp2
  go_ret3
  have e3 : W3 = W2.drew.setCells A.k (i * 80) zs := HW3.out
  refine ⟨rfl, ?_, ?_⟩
  · rw [e3]
    have p2 : No W2.drew A n (c.take i) nk := NO2.out.same rfl
    have on3 : Only (fun x => x = A.k) W2.drew (W2.drew.setCells A.k (i * 80) zs) := (Only.refl _ _).setCells _ _ _ (.inl rfl)
    refine ⟨p2.hd.only on3 p2.ok.bk, p2.ar.only on3 p2.ok.ak p2.ok.lk, (p2.ks.setCells zs (i * 80) _ _).congr fun j hj => ?_, p2.ok⟩
    rw [HLEN.out]
    by_cases hjm : i * 80 ≤ j ∧ j < i * 80 + 80
    · have h1 : j / 80 = i := by omega
      have h2 : j - i * 80 = j % 80 := by omega
      have h3 : j % 80 < 80 := Nat.mod_lt _ (by omega)
      have h4 : j % 80 % 5 = j % 5 := by omega
      rw [if_pos hjm, HZS.out, h2]
      simp [slotCell, h1, up_same, h3, h4]
    · have h1 : j / 80 ≠ i := by omega
      rw [if_neg hjm]
      simp [slotCell, up_other _ _ _ _ h1]
  · rw [e3]
    have o1 : Only (fun x => x = A.l ∨ x = A.k) w W2 := ((Only.of_below _ HB0.out).trans (HON.out.mono fun k _ h => .inl h)).trans (ON2.out.mono fun k _ h => h.elim)
    exact o1.drew.setCells _ _ _ (.inl (.inr rfl))

end Go.Proofs.YtdlemkmkheokkaaDoor
