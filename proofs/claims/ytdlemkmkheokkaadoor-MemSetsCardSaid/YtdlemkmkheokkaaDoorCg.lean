/- Ways of one page: what a cache that holds true ways finds is what a walk finds. -/
import Derived.Test.YtdlemkmkheokkaaDoorCb
namespace Go.Proofs.YtdlemkmkheokkaaDoor
open Go.RowKit

/-- two addresses of one page lead by one way -/
theorem walk_page (C : SC) : ∀ (f : Nat) (k : K) (addr addr' : Int) (ro : Bool) (above : Int), 1 ≤ above → above ≤ f → 0 ≤ addr → addr / 32 = addr' / 32 →
    ((walkF C f k addr ro above).fault = 0 → walkF C f k addr' ro above = ⟨(walkF C f k addr ro above).page, addr' % 32, (walkF C f k addr ro above).ro, 0, (walkF C f k addr ro above).nodes⟩ ∧ (walkF C f k addr ro above).at_ = addr % 32 ∧
      ∃ p : Nat, (walkF C f k addr ro above).page = p ∧ p < C.pc ∧ C.pa.th p = true) ∧
    ((walkF C f k addr ro above).fault ≠ 0 → (walkF C f k addr' ro above).fault = (walkF C f k addr ro above).fault ∧ (walkF C f k addr ro above).page = 0 ∧ (walkF C f k addr ro above).at_ = 0 ∧ (walkF C f k addr ro above).ro = false)
  | 0, _, _, _, _, above, h1, h2, _, _ => by
    exfalso
    have : above ≤ 0 := by simpa using h2
    omega
  | f + 1, k, addr, addr', ro, above, h1, h2, h0, he => by
    by_cases hm : (memB k && liveS C k) = false
    · rw [walkF_void hm, walkF_void hm]
      exact ⟨fun h => absurd h (by decide), fun _ => ⟨rfl, rfl, rfl, rfl⟩⟩
    · have hm : (memB k && liveS C k) = true := by simpa using hm
      by_cases hd : above ≤ heightF k
      · rw [walkF_depth hm hd, walkF_depth hm hd]
        exact ⟨fun h => absurd h (by decide), fun _ => ⟨rfl, rfl, rfl, rfl⟩⟩
      · by_cases h3 : k.kind = 3
        · have hh : heightF k = 0 := by simp [heightF, h3]
          have hs : sizeF (heightF k) = 32 := by rw [hh]; rfl
          by_cases hr : sizeF (heightF k) ≤ addr
          · rw [walkF_range hm hd hr, walkF_range hm hd (by omega)]
            exact ⟨fun h => absurd h (by decide), fun _ => ⟨rfl, rfl, rfl, rfl⟩⟩
          · rw [walkF_page hm hd hr h3, walkF_page hm hd (by omega) h3]
            have hl : liveS C k = true := by
              rw [Bool.and_eq_true] at hm; exact hm.2
            simp [liveS, h3, liveB, thereB] at hl
            refine ⟨fun _ => ⟨?_, ?_, k.id.toNat, ?_, ?_, ?_⟩, fun h => absurd rfl h⟩
            · have : addr' = addr' % 32 := by omega
              rw [← this]
            · show addr = addr % 32; omega
            · show k.id = _; omega
            · omega
            · exact hl.1.2.2
        · obtain ⟨e2, d1, d4, _⟩ := mem_node hm h3
          have hh : heightF k = k.data := by simp [heightF, h3]
          rw [hh] at hd
          have hst := sizeF_step k.data d1 d4
          have hsz : sizeF (k.data - 1) = 32 ∨ sizeF (k.data - 1) = 512 ∨ sizeF (k.data - 1) = 8192 ∨ sizeF (k.data - 1) = 131072 := by
            rcases (by omega : k.data = 1 ∨ k.data = 2 ∨ k.data = 3 ∨ k.data = 4) with e | e | e | e <;> rw [e] <;> decide
          by_cases hr : sizeF (heightF k) ≤ addr
          · have hr' : sizeF (heightF k) ≤ addr' := by rw [hh] at hr ⊢; omega
            rw [walkF_range hm (by rw [hh]; exact hd) hr, walkF_range hm (by rw [hh]; exact hd) hr']
            exact ⟨fun h => absurd h (by decide), fun _ => ⟨rfl, rfl, rfl, rfl⟩⟩
          · have hr' : ¬ sizeF (heightF k) ≤ addr' := by rw [hh] at hr ⊢; omega
            rw [walkF_node hm (by rw [hh]; exact hd) hr h3, walkF_node hm (by rw [hh]; exact hd) hr' h3]
            have q1 : addr' / sizeF (k.data - 1) = addr / sizeF (k.data - 1) := by rcases hsz with e | e | e | e <;> rw [e] <;> omega
            have q2 : addr % sizeF (k.data - 1) / 32 = addr' % sizeF (k.data - 1) / 32 := by rcases hsz with e | e | e | e <;> rw [e] <;> omega
            have q3 : 0 ≤ addr % sizeF (k.data - 1) := by rcases hsz with e | e | e | e <;> rw [e] <;> omega
            have q4 : addr' % sizeF (k.data - 1) % 32 = addr' % 32 := by rcases hsz with e | e | e | e <;> rw [e] <;> omega
            have q5 : addr % sizeF (k.data - 1) % 32 = addr % 32 := by rcases hsz with e | e | e | e <;> rw [e] <;> omega
            obtain ⟨i1, i2⟩ := walk_page C f (C.nk k.id.toNat (addr / sizeF (k.data - 1)).toNat) (addr % sizeF (k.data - 1)) (addr' % sizeF (k.data - 1)) (ro || weakB k.rights) k.data d1 (by push_cast at h2; omega) q3 q2
            rw [q1]
            refine ⟨fun h => ?_, fun h => ?_⟩
            · obtain ⟨j1, j2, j3⟩ := i1 h
              refine ⟨?_, by show _ = _; rw [← q5]; exact j2, j3⟩
              rw [j1, q4]
            · obtain ⟨j1, j2, j3, j4⟩ := i2 h
              exact ⟨j1, j2, j3, j4⟩

theorem way_page (C : SC) (k : K) (addr addr' : Int) (h0 : 0 ≤ addr) (he : addr / 32 = addr' / 32) :
    ((wayF C k addr).fault = 0 → wayF C k addr' = ⟨(wayF C k addr).page, addr' % 32, (wayF C k addr).ro, 0, (wayF C k addr).nodes⟩ ∧ (wayF C k addr).at_ = addr % 32 ∧ ∃ p : Nat, (wayF C k addr).page = p ∧ p < C.pc ∧ C.pa.th p = true) ∧
    ((wayF C k addr).fault ≠ 0 → (wayF C k addr').fault = (wayF C k addr).fault ∧ (wayF C k addr).page = 0 ∧ (wayF C k addr).at_ = 0 ∧ (wayF C k addr).ro = false) :=
  walk_page C 5 k addr addr' false 5 (by decide) (by decide) h0 he

/-- the ways that are remembered are true -/
def Good (C : SC) (cs : List CW) : Prop := ∀ c ∈ cs, c.ns.length ≤ 5 ∧ ∀ addr : Int, 0 ≤ addr → addr / 32 = c.pg → wayF C c.k addr = ⟨c.page, addr % 32, c.ro, 0, c.ns⟩
theorem walk_len (C : SC) : ∀ (f : Nat) (k : K) (addr : Int) (ro : Bool) (above : Int), (walkF C f k addr ro above).nodes.length ≤ f
  | 0, _, _, _, _ => Nat.le_refl _
  | f + 1, k, addr, ro, above => by
    unfold walkF
    repeat' split
    all_goals first | exact Nat.zero_le _ | exact Nat.succ_le_succ (walk_len C f _ _ _ _)
theorem Good.nil (C : SC) : Good C [] := fun _ h => absurd h List.not_mem_nil
/-- what Find hands back, of a walk's end -/
def WR.fr (R : WR) : FR := ⟨R.page, R.at_, R.ro, R.fault⟩

theorem good_find {C : SC} {cs : List CW} (h : Good C cs) (size : Int) (k : K) (addr : Int) (h0 : 0 ≤ addr) :
    (findF C size cs k addr).1 = (wayF C k addr).fr ∧ Good C (findF C size cs k addr).2.2 := by
  unfold findF
  cases hc : cs.find? (hitB k (addr / 32)) with
  | some c =>
    have hmem := List.mem_of_find?_eq_some hc
    have hq := List.find?_some hc
    simp only [hitB, Bool.and_eq_true, beq_iff_eq, eqK_iff] at hq
    have := (h c hmem).2 addr h0 hq.1.symm
    rw [hq.2] at this
    refine ⟨?_, h⟩
    rw [this]
    rfl
  | none =>
    dsimp only
    obtain ⟨p1, p2⟩ := way_page C k addr addr h0 rfl
    by_cases hf : (wayF C k addr).fault = 0
    · rw [if_pos hf]
      refine ⟨?_, ?_⟩
      · show _ = FR.mk _ _ _ _
        rw [hf]
      · intro c hm
        rcases List.mem_append.1 hm with hm | hm
        · refine h c ?_
          unfold roomF at hm
          split at hm
          · exact List.mem_of_mem_tail hm
          · exact hm
        · obtain rfl : c = _ := by simpa using hm
          exact ⟨walk_len C 5 k addr false 5, fun a _ hpg => ((way_page C k addr a h0 hpg.symm).1 hf).1⟩
    · rw [if_neg hf]
      obtain ⟨_, e1, e2, e3⟩ := p2 hf
      refine ⟨?_, h⟩
      show _ = FR.mk _ _ _ _
      rw [e1, e2, e3]
theorem find_len {C : SC} {cs : List CW} {size : Int} (k : K) (addr : Int) (h1 : 1 ≤ size) (h : (cs.length : Int) ≤ size) : ((findF C size cs k addr).2.2.length : Int) ≤ size := by
  unfold findF
  split
  · exact h
  · dsimp only
    split
    · unfold roomF
      split
      · rw [List.length_append, List.length_tail, List.length_singleton]; omega
      · rw [List.length_append, List.length_singleton]; omega
    · exact h
end Go.Proofs.YtdlemkmkheokkaaDoor
