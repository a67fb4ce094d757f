/- Contracts of the pages' Make. -/
import Derived.Test.YtdlemkmkheokkaaDoorWb
import Derived.Test.YtdlemkmkheokkaaDoorWd
import Derived.Test.YtdlemkmkheokkaaDoorL
namespace Go.Proofs.YtdlemkmkheokkaaDoor
open Go.RowKit

def pageWords (m : Nat) (f : Nat → Int) : Nat → Int := fun s => if s < m then f s else 0
/-- a page is made -/
def MadeP (w : World) (A : NA) (n : Nat) (c : AC) (pw : Nat → Nat → Int) (i m : Nat) (f : Nat → Int) (e : Ending) (w' : World) : Prop :=
  e = .returned (.tuple #[.int .i64 i, .int .i64 (c.ve i), .nilIface]) ∧ Pg w' A n (c.take i) (up pw i (pageWords m f)) ∧ Only (fun x => x = A.l ∨ x = A.k) w w'

theorem wordsList_get (m : Nat) (f : Nat → Int) (j : Nat) (v : Value) (h : ((List.range m).map fun j => Value.int .u32 (f j))[j]? = some v) : j < m ∧ v = .int .u32 (f j) := by
  by_cases hj : j < m
  · simp [hj] at h; exact ⟨hj, h.symm⟩
  · simp [hj] at h

set_option maxRecDepth 100000 in
set_option maxHeartbeats 800000 in
theorem pmake (A : NA) (n : Nat) (c : AC) (pw : Nat → Nat → Int) (i m cap : Nat) (ad : Addr) (f : Nat → Int) (w : World) (h : Pg w A n c pw) (hn : n ≤ 1000) (hi : i < n)
    (hold : ∀ j, j < i → c.th j = true) (hth : c.th i = false) (hgo : c.go i = false) (hm : m ≤ 32)
    (had : ad.block ≠ A.l) (hlt : ad.block < w.heap.size) (hsp : ∀ j, j < m → w.cell? (ad.add j) = some (.int .u32 (f j))) :
    Calls Tryd.prog 19 #[.pointer (some ⟨A.b, 0, none⟩), .slice (some ad) m cap] w (MadeP w A n c pw i m f) := by
  have TK := Lib.hid (arena_take A.a A.l n c i w h.ar hn h.ok.al hi hold hth hgo)
  have h1 := h.p0
  have H := Lib.hid h
  have SP := Lib.hid hsp
  obtain ⟨cs, hcs⟩ : ∃ cs, cs = (List.range m).map fun j => Value.int .u32 (f j) := ⟨_, rfl⟩
  have hmin : Nat.min m 32 = m := Nat.min_eq_left hm
  have HN : cs.length = Nat.min m 32 * 1 := by rw [hcs, hmin]; simp
  have H1 : ∀ v ∈ cs, v.oneCell' = true := by
    intro v hv; rw [hcs] at hv; simp at hv; obtain ⟨j, _, rfl⟩ := hv; rfl
  have HCS := Lib.hid hcs
  have HN' := Lib.hid HN
  have H1' := Lib.hid H1
  have HMIN := Lib.hid hmin
  clear hmin h hold hth hgo hsp hcs HN H1
  go_enter Tryd.func19, Tryd.ntmps19
  go_wp2_with (fail)
  go_at_call 52
  refine (TK.out).mono ?_
  rintro e w1 ⟨rfl, har, hon⟩
  have HSRC : Hid (∀ j v, cs[j]? = some v → (w1.alloc (.cells zs32 101)).cell? (ad.add j) = some v) := by
    intro j v hv
    rw [HCS.out] at hv
    obtain ⟨hj, rfl⟩ := wordsList_get m f j v hv
    have e1 : (ad.add j).block = ad.block := by unfold Addr.add; split <;> rfl
    rw [World.cell?_of_block (w := w1) (Below.heap_alloc _ _ _ (by rw [e1]; have := hon.size; omega)), World.cell?_of_block (w := w) (hon.block _ (by rw [e1]; exact hlt) (by rw [e1]; exact had))]
    exact SP.out j hj
  have HC : Hid (∀ j, j < cs.length → ((w1.alloc (.cells zs32 101)).cell? ⟨w1.heap.size, 0 + j, none⟩).isSome = true) := by
    intro j hj
    have := (Row.new w1 zs32 101 32 _ (by simp [zs32]) zs32_get).cell (0 + j) (by have := HN'.out; rw [HMIN.out] at this; omega)
    rw [this]; rfl
  have HF : Hid (∀ j, j < cs.length → (w1.alloc (.cells zs32 101)).frozen? ⟨w1.heap.size, 0 + j, none⟩ = false) := by
    intro j _
    exact (Row.new w1 zs32 101 32 _ (by simp [zs32]) zs32_get).frozen _
  have HAR := Lib.hid har
  have HON := Lib.hid hon
  clear har hon
  go_wp2_with (first | (refine wpList_alloc_big rfl 101 rfl zs32 zero101 ?_) | (refine wpList_copy_any rfl (.tmp 27) (.tmp 28) 89 89 rfl 34 1 Tryd.underlying89 size34 w1.heap.size 0 32 32 ad m cap rfl rfl cs HN'.out HSRC.out HC.out HF.out H1'.out ?_; intro W2 HW2))
  have on2 : Only (fun _ => False) w1 W2 := by
    rw [HW2.out]
    exact ((Only.refl _ _).alloc _).setCells _ _ _ (.inr (by omega))
  have pg1 : Pg w1 A n (c.take i) pw := ⟨H.out.hd.only HON.out H.out.ok.bl, HAR.out, H.out.ks.only HON.out (fun e => H.out.ok.lk e.symm), H.out.ok⟩
  have pg2 := pg1.only on2 (fun _ _ h => h)
  have rw2 : Row W2 w1.heap.size 32 (fun j => .int .u32 (pageWords m f j)) := by
    rw [HW2.out]
    refine (Row.setCells cs 0 _ _ (Row.new w1 zs32 101 32 _ (by simp [zs32]) zs32_get)).congr fun j hj => ?_
    have hl : cs.length = m := by have := HN'.out; rw [HMIN.out] at this; omega
    unfold pageWords
    by_cases hjm : j < m
    · rw [if_pos (by omega), if_pos hjm, HCS.out]; simp [hjm]
    · rw [if_neg (by omega), if_neg hjm]
  obtain ⟨zs, hzs⟩ : ∃ zs : List Value, zs = (List.range 32).map fun j => Value.int .u32 (pageWords m f j) := ⟨_, rfl⟩
  have hrange : W2.rangeAt w1.heap.size 0 zs := by rw [hzs]; exact rw2.range
  have hlen : zs.length = 32 := by rw [hzs]; simp
  have hsz : (Tryd.prog.info? 101).map (·.size) = some zs.length := by rw [hlen]; exact size101
  have hsz2 : (Tryd.prog.info? 101).map (·.size) = some zs.toArray.size := by rw [List.size_toArray]; exact hsz
  have hone : zs.toArray.all (·.oneCell') = true := all_oneCell_toArray (by intro v hv; rw [hzs] at hv; simp at hv; obtain ⟨j, _, rfl⟩ := hv; rfl)
  have hthere : W2.there A.k (i * 32) zs.toArray.size := by
    have := pg2.ks.there (i * 32) 32 (by omega)
    rw [List.size_toArray, hlen]; exact this
  have q1 := pg2.p1
  have ON2 := Lib.hid on2
  have PG1 := Lib.hid pg1
  have PG2 := Lib.hid pg2
  have HZS := Lib.hid hzs
  have HRANGE := Lib.hid hrange
  have HLEN := Lib.hid hlen
  have HSZ := Lib.hid hsz
  have HSZ2 := Lib.hid hsz2
  have HONE := Lib.hid hone
  have HTHERE := Lib.hid hthere
  clear on2 pg1 pg2 rw2 hzs hrange hlen hsz hsz2 hone hthere
  refine wp_region_still_tail 7 (by kernel_rfl) (by kernel_rfl) ?_
  simp only [List.take_succ_cons, List.take_zero, List.drop_succ_cons, List.drop_zero]
  iterate 5 still_step
  refine wpStill_load_big rfl 101 (.tmp 10) rfl w1.heap.size 0 rfl zs _ (show World.rangeAt _ _ _ _ from HRANGE.out) Tryd.underlying101 rfl HSZ.out ?_
  still_step
  refine wpStill_nil ?_
  change wpList _ _ _ _ _ W2.drew
  refine wpList_store_mid rfl 101 (.tmp 36) (.tmp 35) rfl A.k (i * 32) zs.toArray rfl rfl (show World.there W2.drew _ _ _ from HTHERE.out) HSZ2.out HONE.out ?_
  obtain ⟨W3, hW3⟩ : ∃ W3, W3 = W2.drew.setCells A.k (i * 32) zs.toArray.toList := ⟨_, rfl⟩
  rw [← hW3]
  have HW3 := Lib.hid hW3
  clear hW3
  go_wp2
  go_ret3
  have e3 : W3 = W2.drew.setCells A.k (i * 32) zs := HW3.out
  refine ⟨rfl, ?_, ?_⟩
  · rw [e3]
    have p2 : Pg W2.drew A n (c.take i) pw := PG2.out.same rfl
    have on3 : Only (fun x => x = A.k) W2.drew (W2.drew.setCells A.k (i * 32) zs) := (Only.refl _ _).setCells _ _ _ (.inl rfl)
    refine ⟨p2.hd.only on3 p2.ok.bk, p2.ar.only on3 p2.ok.ak p2.ok.lk, (p2.ks.setCells zs (i * 32) _ _).congr fun j hj => ?_, p2.ok⟩
    rw [HLEN.out]
    by_cases hjm : i * 32 ≤ j ∧ j < i * 32 + 32
    · have h1 : j / 32 = i := by omega
      have h2 : j - i * 32 = j % 32 := by omega
      have h3 : j % 32 < 32 := Nat.mod_lt _ (by omega)
      rw [if_pos hjm, HZS.out, h2]
      simp [wordCell, h1, up_same, h3]
    · have h1 : j / 32 ≠ i := by omega
      rw [if_neg hjm]
      simp [wordCell, up_other _ _ _ _ h1]
  · rw [e3]
    have o1 : Only (fun x => x = A.l ∨ x = A.k) w W2 := (HON.out.mono fun k _ h => .inl h).trans (ON2.out.mono fun k _ h => h.elim)
    exact o1.drew.setCells _ _ _ (.inl (.inr rfl))

set_option maxRecDepth 100000 in
set_option maxHeartbeats 800000 in
theorem pmake0 (A : NA) (n : Nat) (c : AC) (pw : Nat → Nat → Int) (i : Nat) (w : World) (h : Pg w A n c pw) (hn : n ≤ 1000) (hi : i < n)
    (hold : ∀ j, j < i → c.th j = true) (hth : c.th i = false) (hgo : c.go i = false) :
    Calls Tryd.prog 19 #[.pointer (some ⟨A.b, 0, none⟩), .slice none 0 0] w (MadeP w A n c pw i 0 (fun _ => 0)) := by
  have TK := Lib.hid (arena_take A.a A.l n c i w h.ar hn h.ok.al hi hold hth hgo)
  have h1 := h.p0
  have H := Lib.hid h
  clear h hold hth hgo
  go_enter Tryd.func19, Tryd.ntmps19
  go_wp2_with (fail)
  go_at_call 52
  refine (TK.out).mono ?_
  rintro e w1 ⟨rfl, har, hon⟩
  have HAR := Lib.hid har
  have HON := Lib.hid hon
  clear har hon
  go_wp2_with (first | (refine wpList_alloc_big rfl 101 rfl zs32 zero101 ?_) | (refine wpList_copy_none rfl (.tmp 27) (.tmp 28) 89 89 rfl 34 Tryd.underlying89 (by rw [size34]; rfl) ⟨w1.heap.size, 0, none⟩ 32 32 rfl rfl ?_))
  obtain ⟨W2, hW2⟩ : ∃ W2, W2 = w1.alloc (.cells zs32 101) := ⟨_, rfl⟩
  rw [← hW2]
  have HW2 := Lib.hid hW2
  clear hW2
  have on2 : Only (fun _ => False) w1 W2 := by
    rw [HW2.out]
    exact (Only.refl _ _).alloc _
  have pg1 : Pg w1 A n (c.take i) pw := ⟨H.out.hd.only HON.out H.out.ok.bl, HAR.out, H.out.ks.only HON.out (fun e => H.out.ok.lk e.symm), H.out.ok⟩
  have pg2 := pg1.only on2 (fun _ _ h => h)
  have rw2 : Row W2 w1.heap.size 32 (fun j => .int .u32 (pageWords 0 (fun _ => 0) j)) := by
    rw [HW2.out]
    exact (Row.new w1 zs32 101 32 _ (by simp [zs32]) zs32_get).congr fun j hj => by simp [pageWords]
  obtain ⟨zs, hzs⟩ : ∃ zs : List Value, zs = (List.range 32).map fun j => Value.int .u32 (pageWords 0 (fun _ => 0) j) := ⟨_, rfl⟩
  have hrange : W2.rangeAt w1.heap.size 0 zs := by rw [hzs]; exact rw2.range
  have hlen : zs.length = 32 := by rw [hzs]; simp
  have hsz : (Tryd.prog.info? 101).map (·.size) = some zs.length := by rw [hlen]; exact size101
  have hsz2 : (Tryd.prog.info? 101).map (·.size) = some zs.toArray.size := by rw [List.size_toArray]; exact hsz
  have hone : zs.toArray.all (·.oneCell') = true := all_oneCell_toArray (by intro v hv; rw [hzs] at hv; simp at hv; obtain ⟨j, _, rfl⟩ := hv; rfl)
  have hthere : W2.there A.k (i * 32) zs.toArray.size := by
    have := pg2.ks.there (i * 32) 32 (by omega)
    rw [List.size_toArray, hlen]; exact this
  have q1 := pg2.p1
  have ON2 := Lib.hid on2
  have PG1 := Lib.hid pg1
  have PG2 := Lib.hid pg2
  have HZS := Lib.hid hzs
  have HRANGE := Lib.hid hrange
  have HLEN := Lib.hid hlen
  have HSZ := Lib.hid hsz
  have HSZ2 := Lib.hid hsz2
  have HONE := Lib.hid hone
  have HTHERE := Lib.hid hthere
  clear on2 pg1 pg2 rw2 hzs hrange hlen hsz hsz2 hone hthere
  refine wp_region_still_tail 7 (by kernel_rfl) (by kernel_rfl) ?_
  simp only [List.take_succ_cons, List.take_zero, List.drop_succ_cons, List.drop_zero]
  iterate 5 still_step
  refine wpStill_load_big rfl 101 (.tmp 10) rfl w1.heap.size 0 rfl zs _ (show World.rangeAt _ _ _ _ from HRANGE.out) Tryd.underlying101 rfl HSZ.out ?_
  still_step
  refine wpStill_nil ?_
  change wpList _ _ _ _ _ W2.drew
  refine wpList_store_mid rfl 101 (.tmp 36) (.tmp 35) rfl A.k (i * 32) zs.toArray rfl rfl (show World.there W2.drew _ _ _ from HTHERE.out) HSZ2.out HONE.out ?_
  obtain ⟨W3, hW3⟩ : ∃ W3, W3 = W2.drew.setCells A.k (i * 32) zs.toArray.toList := ⟨_, rfl⟩
  rw [← hW3]
  have HW3 := Lib.hid hW3
  clear hW3
  go_wp2
  go_ret3
  have e3 : W3 = W2.drew.setCells A.k (i * 32) zs := HW3.out
  refine ⟨rfl, ?_, ?_⟩
  · rw [e3]
    have p2 : Pg W2.drew A n (c.take i) pw := PG2.out.same rfl
    have on3 : Only (fun x => x = A.k) W2.drew (W2.drew.setCells A.k (i * 32) zs) := (Only.refl _ _).setCells _ _ _ (.inl rfl)
    refine ⟨p2.hd.only on3 p2.ok.bk, p2.ar.only on3 p2.ok.ak p2.ok.lk, (p2.ks.setCells zs (i * 32) _ _).congr fun j hj => ?_, p2.ok⟩
    rw [HLEN.out]
    by_cases hjm : i * 32 ≤ j ∧ j < i * 32 + 32
    · have h1 : j / 32 = i := by omega
      have h2 : j - i * 32 = j % 32 := by omega
      have h3 : j % 32 < 32 := Nat.mod_lt _ (by omega)
      rw [if_pos hjm, HZS.out, h2]
      simp [wordCell, h1, up_same, h3]
    · have h1 : j / 32 ≠ i := by omega
      rw [if_neg hjm]
      simp [wordCell, up_other _ _ _ _ h1]
  · rw [e3]
    have o1 : Only (fun x => x = A.l ∨ x = A.k) w W2 := (HON.out.mono fun k _ h => .inl h).trans (ON2.out.mono fun k _ h => h.elim)
    exact o1.drew.setCells _ _ _ (.inl (.inr rfl))

end Go.Proofs.YtdlemkmkheokkaaDoor
