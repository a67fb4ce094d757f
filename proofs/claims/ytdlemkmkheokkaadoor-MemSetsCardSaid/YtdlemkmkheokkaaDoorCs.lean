/- Ways through node 0, whose slots have keys of pages. -/
import Derived.Test.YtdlemkmkheokkaaDoorCg
namespace Go.Proofs.YtdlemkmkheokkaaDoor
open Go.RowKit

/-- the key of node 0, of height 1 -/
def kn0 : K := ⟨2, 0, 0, 0, 1⟩
/-- node 0 is there, as it was made first -/
structure Nd0 (C : SC) : Prop where
  nc : 0 < C.nc
  th : C.na.th 0 = true
  ve : C.na.ve 0 = 0
theorem way_slot {C : SC} (h : Nd0 C) (t : Nat) (ht : t < 16) (a : Int) (ha : a / 32 = t) :
    wayF C kn0 a = { walkF C 4 (C.nk 0 t) (a % 32) false 1 with nodes := 0 :: (walkF C 4 (C.nk 0 t) (a % 32) false 1).nodes } := by
  have hm : (memB kn0 && liveS C kn0) = true := by
    have h1 := h.nc
    simp [memB, liveS, liveB, thereB, kn0, h.th, h.ve, h1]
  have hd : ¬ (5 : Int) ≤ heightF kn0 := by decide
  have hr : ¬ sizeF (heightF kn0) ≤ a := by
    show ¬ (512 : Int) ≤ a
    omega
  unfold wayF
  rw [walkF_node hm hd hr (by decide)]
  have e1 : sizeF (kn0.data - 1) = 32 := rfl
  rw [e1, ha]
  show ({ walkF C 4 (C.nk 0 t) (a % 32) (false || weakB 0) 1 with nodes := 0 :: _ } : WR) = _
  rfl
/-- a page's key, live -/
theorem page_walk {C : SC} (p : Nat) (r : Int) (hp : p < C.pc) (hth : C.pa.th p = true) (hve : C.pa.ve p = 0) (f : Nat) (x : Int) (h1 : x < 32) (ro : Bool) (above : Int) (hab : 1 ≤ above) : walkF C (f + 1) ⟨3, p, 0, r, 0⟩ x ro above = ⟨p, x, ro || weakB r, 0, []⟩ := by
  have hm : (memB ⟨3, p, 0, r, 0⟩ && liveS C ⟨3, p, 0, r, 0⟩) = true := by simp [memB, liveS, liveB, thereB, hp, hth, hve]
  have hh : heightF ⟨3, p, 0, r, 0⟩ = 0 := by simp [heightF]
  rw [walkF_page hm (by rw [hh]; omega) (by rw [hh]; show ¬ (32 : Int) ≤ x; omega) rfl]
/-- a page's key, stale -/
theorem page_stale {C : SC} (p : Nat) (v : Int) (hve : C.pa.ve p ≠ v) (f : Nat) (x : Int) (ro : Bool) (above : Int) : walkF C (f + 1) ⟨3, p, v, 0, 0⟩ x ro above = ⟨0, 0, false, 2, []⟩ := by
  have hm : (memB ⟨3, p, v, 0, 0⟩ && liveS C ⟨3, p, v, 0, 0⟩) = false := by simp [memB, liveS, liveB, hve]
  rw [walkF_void hm]
theorem page_gone {C : SC} (p : Nat) (v : Int) (hth : C.pa.th p = false) (f : Nat) (x : Int) (ro : Bool) (above : Int) : walkF C (f + 1) ⟨3, p, v, 0, 0⟩ x ro above = ⟨0, 0, false, 2, []⟩ := by
  have hm : (memB ⟨3, p, v, 0, 0⟩ && liveS C ⟨3, p, v, 0, 0⟩) = false := by simp [memB, liveS, liveB, thereB, hth]
  rw [walkF_void hm]
theorem void_walk {C : SC} (f : Nat) (x : Int) (ro : Bool) (above : Int) : walkF C (f + 1) K.zero x ro above = ⟨0, 0, false, 2, []⟩ := by
  have hm : (memB K.zero && liveS C K.zero) = false := by simp [memB, K.zero]
  rw [walkF_void hm]
/-- nothing is remembered of a fault -/
theorem find_nil_fault {C : SC} {size : Int} {k : K} {a : Int} (h : (wayF C k a).fault ≠ 0) : findF C size [] k a = (⟨0, 0, false, (wayF C k a).fault⟩, false, []) := by
  unfold findF
  simp [h]
theorem slot_page {C : SC} (h : Nd0 C) (t p : Nat) (ht : t < 16) (a : Int) (ha : a / 32 = t) (hk : C.nk 0 t = ⟨3, p, 0, 0, 0⟩) (hp : p < C.pc) (hth : C.pa.th p = true) (hve : C.pa.ve p = 0) : wayF C kn0 a = ⟨p, a % 32, false, 0, [0]⟩ := by
  rw [way_slot h t ht a ha, hk, page_walk p 0 hp hth hve 3 (a % 32) (by omega) false 1 (by omega)]
  rfl
/-- a way that does not go through a node is as it was when the node's slots are set -/
theorem walk_set (C : SC) (i s : Nat) (x : K) : ∀ (f : Nat) (k : K) (addr : Int) (ro : Bool) (above : Int), (∀ z ∈ (walkF C f k addr ro above).nodes, z ≠ (i : Int)) → walkF { C with nk := up2 C.nk i s x } f k addr ro above = walkF C f k addr ro above
  | 0, _, _, _, _, _ => rfl
  | f + 1, k, addr, ro, above, h => by
    by_cases hm : (memB k && liveS C k) = false
    · have hm' : (memB k && liveS { C with nk := up2 C.nk i s x } k) = false := hm
      rw [walkF_void hm, walkF_void hm']
    · have hm : (memB k && liveS C k) = true := by simpa using hm
      have hm' : (memB k && liveS { C with nk := up2 C.nk i s x } k) = true := hm
      by_cases hd : above ≤ heightF k
      · rw [walkF_depth hm hd, walkF_depth hm' hd]
      · by_cases hr : sizeF (heightF k) ≤ addr
        · rw [walkF_range hm hd hr, walkF_range hm' hd hr]
        · by_cases h3 : k.kind = 3
          · rw [walkF_page hm hd hr h3, walkF_page hm' hd hr h3]
          · obtain ⟨_, _, _, h0, _, _⟩ := mem_node hm h3
            rw [walkF_node hm hd hr h3] at h ⊢
            rw [walkF_node hm' hd hr h3]
            have hk : k.id ≠ (i : Int) := h k.id (List.mem_cons_self)
            have e : ({ C with nk := up2 C.nk i s x } : SC).nk k.id.toNat (addr / sizeF (k.data - 1)).toNat = C.nk k.id.toNat (addr / sizeF (k.data - 1)).toNat := up2_other _ _ _ _ _ _ (by omega)
            rw [e, walk_set C i s x f _ _ _ _ (fun z hz => h z (List.mem_cons_of_mem _ hz))]
/-- what is remembered of the others stays true -/
theorem Good.set {C : SC} {cs : List CW} (h : Good C cs) (i s : Nat) (x : K) (hn : ∀ c ∈ cs, ∀ z ∈ c.ns, z ≠ (i : Int)) : Good { C with nk := up2 C.nk i s x } cs := fun c hc => ⟨(h c hc).1, fun addr h0 hp => by
  have := (h c hc).2 addr h0 hp
  rw [← this]
  exact walk_set C i s x 5 c.k addr false 5 (fun z hz => hn c hc z (by
    have e : (walkF C 5 c.k addr false 5).nodes = c.ns := by show (wayF C c.k addr).nodes = _; rw [this]
    rwa [e] at hz))⟩
end Go.Proofs.YtdlemkmkheokkaaDoor
