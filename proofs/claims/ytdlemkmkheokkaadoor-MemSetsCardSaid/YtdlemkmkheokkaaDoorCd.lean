/- The contract of slices.Delete(l, 0, 1) at ways: the first goes, the others move up. -/
import Derived.Test.YtdlemkmkheokkaaDoorCb
import Derived.Deep.RegionLaw
namespace Go.Proofs.YtdlemkmkheokkaaDoor
open Go.RowKit

def zWay : Value := .agg #[.int .i64 0, .int .i64 0, .int .i64 0, .int .i64 0, .int .u32 0, .int .u32 0, .slice none 0 0, .int .i64 0, .int .i64 0, .bool false]
theorem info123 : (Tryd.prog.info? 123).map (fun i => (i.zero, i.size, i.bytes)) = some (some zWay, 10, 96) := by kernel_rfl
theorem zWay_size : zWay.cells.size = 10 := by kernel_rfl

theorem block_setCells {g : Nat} {t : TypeId} {f : Nat × Nat} : ∀ (vs : List Value) (o : Nat) (w : World) (cur : Array Value), w.heap[g]? = some (.cells cur t f) →
    ∃ cur', (w.setCells g o vs).heap[g]? = some (.cells cur' t f) ∧ cur'.size = cur.size ∧ ∀ j, j < cur.size → cur'[j]? = (if o ≤ j ∧ j < o + vs.length then vs[j - o]? else cur[j]?)
  | [], o, w, cur, h => ⟨cur, h, rfl, fun j _ => by rw [if_neg (by simp)]⟩
  | v :: vs, o, w, cur, h => by
    have h' : (w.setCell ⟨g, o, none⟩ v).heap[g]? = some (.cells (cur.setIfInBounds o v) t f) := by simp [World.setCell, Array.getElem?_modify, h]
    obtain ⟨c, h1, h2, h3⟩ := block_setCells vs (o + 1) _ _ h'
    refine ⟨c, h1, by simpa using h2, fun j hj => ?_⟩
    rw [h3 j (by simpa using hj), Array.getElem?_setIfInBounds]
    simp only [List.length_cons]
    by_cases e1 : o + 1 ≤ j ∧ j < o + 1 + vs.length
    · rw [if_pos e1, if_pos (by omega), show j - o = (j - (o + 1)) + 1 by omega, List.getElem?_cons_succ]
    · rw [if_neg e1]
      by_cases e2 : o = j
      · subst e2; rw [if_pos rfl, if_pos hj, if_pos (by omega)]; simp
      · rw [if_neg e2, if_neg (by omega)]
theorem own_block {w : World} {lo g n cap z : Nat} {t : TypeId} {cur : Array Value} {xs : List Value} (hl : xs.length = n * z) (hlo : lo ≤ g) (hg : w.heap[g]? = some (.cells cur t (0, 0))) (hn : n ≤ cap) (hm : cap ≤ maxLen) (hs : cur.size = cap * z)
    (hx : ∀ j, j < n * z → cur[j]? = xs[j]?) : w.ownsRow lo t z (.slice (some ⟨g, 0, none⟩) n cap) n xs := by
  refine ⟨hl, .inr ⟨g, cap, cur, rfl, hlo, hg, hn, hm, hs, ?_⟩⟩
  have hle : n * z ≤ cap * z := Nat.mul_le_mul_right z hn
  apply List.ext_getElem?
  intro j
  by_cases hj : j < n * z
  · rw [List.getElem?_take_of_lt hj, Array.getElem?_toList, hx j hj]
  · rw [List.getElem?_eq_none (by rw [List.length_take, Array.length_toList]; omega), List.getElem?_eq_none (by omega)]
/-- what is known of a row that is owned -/
theorem own_parts {w : World} {lo g n cap z : Nat} {t : TypeId} {xs : List Value} (h : w.ownsRow lo t z (.slice (some ⟨g, 0, none⟩) n cap) n xs) :
    ∃ cur, w.heap[g]? = some (.cells cur t (0, 0)) ∧ xs.length = n * z ∧ lo ≤ g ∧ n ≤ cap ∧ cap ≤ maxLen ∧ cur.size = cap * z ∧ ∀ j, j < n * z → cur[j]? = xs[j]? := by
  obtain ⟨hl, h2⟩ := h
  rcases h2 with ⟨h0, _⟩ | ⟨g', cap', cur, hv, hlo, hg, hn, hm, hs, ht⟩
  · cases h0
  · cases hv
    refine ⟨cur, hg, hl, hlo, hn, hm, hs, fun j hj => ?_⟩
    rw [← ht, List.getElem?_take_of_lt hj, Array.getElem?_toList]
/-- cells behind what is owned are written -/
theorem own_past {w : World} {lo g n cap z : Nat} {t : TypeId} {xs : List Value} (h : w.ownsRow lo t z (.slice (some ⟨g, 0, none⟩) n cap) n xs) (o : Nat) (vs : List Value) (ho : n * z ≤ o) :
    (w.setCells g o vs).ownsRow lo t z (.slice (some ⟨g, 0, none⟩) n cap) n xs := by
  obtain ⟨cur, hg, hl, hlo, hn, hm, hs, hx⟩ := own_parts h
  have hle : n * z ≤ cap * z := Nat.mul_le_mul_right z hn
  obtain ⟨c, h1, h2, h3⟩ := block_setCells vs o w cur hg
  exact own_block hl hlo h1 hn hm (h2.trans hs) (fun j hj => by rw [h3 j (by omega), if_neg (by omega), hx j hj])
/-- of what is owned the first is written anew -/
theorem own_first {w : World} {lo g n m cap z : Nat} {t : TypeId} {xs : List Value} (h : w.ownsRow lo t z (.slice (some ⟨g, 0, none⟩) n cap) n xs) (vs : List Value) (hv : vs.length = m * z) (hm : m ≤ n) :
    (w.setCells g 0 vs).ownsRow lo t z (.slice (some ⟨g, 0, none⟩) m cap) m vs := by
  obtain ⟨cur, hg, hl, hlo, hn, hmx, hs, hx⟩ := own_parts h
  have hle : m * z ≤ cap * z := Nat.mul_le_mul_right z (by omega)
  obtain ⟨c, h1, h2, h3⟩ := block_setCells vs 0 w cur hg
  exact own_block hv hlo h1 (by omega) hmx (h2.trans hs) (fun j hj => by rw [h3 j (by omega), if_pos (by omega), Nat.sub_zero])
theorem own_at {w : World} {lo g n cap z : Nat} {t : TypeId} {xs : List Value} (h : w.ownsRow lo t z (.slice (some ⟨g, 0, none⟩) n cap) n xs) (j : Nat) (hj : j < cap * z) :
    (w.cell? ⟨g, j, none⟩).isSome = true ∧ w.frozen? ⟨g, j, none⟩ = false := by
  obtain ⟨cur, hg, hl, hlo, hn, hm, hs, hx⟩ := own_parts h
  have : j < cur.size := by omega
  simp [World.cell?, World.frozen?, hg, this]

theorem zcells_len (n : Nat) : (Builtin.zeroCells zWay.cells n).toList.length = n * 10 := by
  simp [Builtin.zeroCells, zWay_size]
theorem zcells_one (n : Nat) : ∀ v ∈ (Builtin.zeroCells zWay.cells n).toList, v.oneCell' = true := by
  intro v hv
  simp only [Builtin.zeroCells, Array.toList_map, List.mem_map] at hv
  obtain ⟨i, _, rfl⟩ := hv
  have h : i % zWay.cells.size < 10 := by rw [zWay_size]; exact Nat.mod_lt _ (by omega)
  generalize i % zWay.cells.size = k at h
  rcases (by omega : k = 0 ∨ k = 1 ∨ k = 2 ∨ k = 3 ∨ k = 4 ∨ k = 5 ∨ k = 6 ∨ k = 7 ∨ k = 8 ∨ k = 9) with rfl | rfl | rfl | rfl | rfl | rfl | rfl | rfl | rfl | rfl <;> rfl
/-- clear, at ways -/
theorem clear_ways (w : World) (ty : TypeId) (b o n c : Nat) (hn : 0 < n) (hc : ∀ j, j < n * 10 → (w.cell? ⟨b, o + j, none⟩).isSome = true ∧ w.frozen? ⟨b, o + j, none⟩ = false) :
    (Builtin.clear_ #[119] ty #[.slice (some ⟨b, o, none⟩) n c]).run Tryd.prog w = .ok (.tuple #[]) (w.setCells b o (Builtin.zeroCells zWay.cells n).toList) := by
  have hst := run_storeCells_cells (P := Tryd.prog) b o (Builtin.zeroCells zWay.cells n).toList 0 w (fun j hj => by rw [zcells_len] at hj; simpa using (hc j hj).1) (fun j hj => by rw [zcells_len] at hj; simpa using (hc j hj).2) (zcells_one n)
  simp only [Nat.add_zero] at hst
  obtain ⟨m, rfl⟩ : ∃ m, n = m + 1 := ⟨n - 1, by omega⟩
  simp only [zWay] at hst ⊢
  simp [Builtin.clear_, run_underlying Tryd.underlying119, hst]

def DelP (w : World) (lo g m cap : Nat) (xs : List Value) (e : Ending) (w' : World) : Prop :=
  e = .returned (.slice (some ⟨g, 0, none⟩) m cap) ∧ w'.ownsRow lo 123 10 (.slice (some ⟨g, 0, none⟩) m cap) m (xs.drop 10) ∧ Only (fun x => x = g) w w'

set_option maxRecDepth 100000 in
set_option maxHeartbeats 2000000 in
theorem del_first {lo g m cap : Nat} {xs : List Value} {w : World} (n : Nat) (hnm : n = m + 1) (h : w.ownsRow lo 123 10 (.slice (some ⟨g, 0, none⟩) n cap) n xs) (h64 : m ≤ 64) (h1 : ∀ u ∈ xs, u.oneCell' = true) :
    Calls Tryd.prog 70 #[.slice (some ⟨g, 0, none⟩) n cap, .int .i64 0, .int .i64 1] w (DelP w lo g m cap xs) := by
  subst hnm
  obtain ⟨cur, hg, hl, hlo, hn, hm, hs, hx⟩ := own_parts h
  obtain ⟨i0, hi0, hz0, hz1, hz2⟩ := info_parts info123
  obtain ⟨news, hnews⟩ : ∃ news, news = xs.drop 10 := ⟨_, rfl⟩
  have hlen : news.length = m * 10 := by rw [hnews, List.length_drop, hl]; omega
  obtain ⟨A, hA, hsrc⟩ : ∃ A : Addr, (if cap = 1 then some (⟨g, 0, none⟩ : Addr) else some ⟨g, 10, none⟩) = some A ∧ Hid (∀ t u, news[t]? = some u → w.drew.cell? (A.add t) = some u) := by
    by_cases e : cap = 1
    · refine ⟨⟨g, 0, none⟩, by simp [e], fun t u hu => ?_⟩
      have h0 : news.length = 0 := by rw [hlen]; omega
      rw [List.length_eq_zero_iff.1 h0] at hu
      simp at hu
    · refine ⟨⟨g, 10, none⟩, by simp [e], fun t u hu => ?_⟩
      have ht : t < m * 10 := by
        have := (List.getElem?_eq_some_iff.1 hu).1
        rwa [hlen] at this
      rw [hnews, List.getElem?_drop] at hu
      rw [Addr.add_lit]
      have := hx (10 + t) (by omega)
      show w.cell? _ = _
      simp [World.cell?, hg, this, hu]
  have s1 : Hid (news.length = m * 10) := hlen
  have s2 : Hid (∀ u ∈ news, u.oneCell' = true) := by
    intro u hu
    rw [hnews] at hu
    exact h1 u (List.mem_of_mem_drop hu)
  have s3 : Hid (∀ t, t < news.length → (w.drew.cell? ⟨g, 0 + 0 * 10 + t, none⟩).isSome = true ∧ w.drew.frozen? ⟨g, 0 + 0 * 10 + t, none⟩ = false) := by
    intro t ht
    rw [hlen] at ht
    have := own_at h t (by omega)
    simpa using this
  obtain ⟨W1, hW1⟩ : ∃ W1, W1 = w.drew.setCells g (0 + 0 * 10) news := ⟨_, rfl⟩
  have hd : w.drew.ownsRow lo 123 10 (.slice (some ⟨g, 0, none⟩) (m + 1) cap) (m + 1) xs := h
  have hO1 : W1.ownsRow lo 123 10 (.slice (some ⟨g, 0, none⟩) m cap) m news := by rw [hW1]; exact own_first hd news hlen (by omega)
  have o1 : Only (fun x => x = g) w W1 := by rw [hW1]; exact ((Only.refl (fun x : Nat => x = g) w).drew).setCells g _ _ (.inl rfl)
  have hcl : ∀ ty, (Builtin.clear_ #[119] ty #[.slice (some ⟨g, m * 10, none⟩) 1 (cap - m)]).run Tryd.prog W1 = .ok (.tuple #[]) (W1.setCells g (m * 10) (Builtin.zeroCells zWay.cells 1).toList) :=
    fun ty => clear_ways W1 ty g (m * 10) 1 _ (by omega) (fun j hj => own_at hO1 _ (by omega))
  have O1 := Lib.hid hO1
  have N1 := Lib.hid o1
  have HW := Lib.hid hW1
  have HN := Lib.hid hnews
  have hm1 : (1 : Int) ≤ (m : Int) + 1 := by omega
  have hne : m + 1 ≤ cap := by omega
  clear hg hl hx hs hlen hnews hW1 hd hO1 o1 h h1
  go_enter Tryd.func70, Tryd.ntmps70
  go_wp2_with fail
  go_region_law (refine step_append_room rfl (.tmp 22) (.tmp 25) 119 rfl 123 i0 10 Tryd.underlying119 hi0 hz1 g 0 0 cap (by simp [Act.eval, Act.put]) A m (cap - 1) news (by simp [Act.eval, Act.put]) s1.out hsrc.out s2.out (by omega) s3.out ?_; rw [← HW.out])
  go_wp2
  go_ret
  refine ⟨by simp, ?_, ?_⟩
  · rw [← HN.out]; exact own_past O1.out _ _ (Nat.le_refl _)
  · exact N1.out.setCells g _ _ (.inl rfl)

end Go.Proofs.YtdlemkmkheokkaaDoor
