/- A drawn region whose last operation writes a cell that an earlier one reads: the condition on the world is held up to that operation alone. -/
import Derived.Deep.RegionHeld3
namespace Go.Proofs.YtdlemkmkheokkaaDoor
open Go

section
variable {P : Program} {ops : Array Oper} {Q : Exit → Act → World → Prop} {md : Region.Mode} {S : World → Prop} {z : Nat}

/-- Whatever order is picked from here on; S holds behind every operation but number z. -/
def wpZ (P : Program) (md : Region.Mode) (ops : Array Oper) (Q : Exit → Act → World → Prop) (S : World → Prop) (z : Nat) : Nat → Array Bool → Act → World → Prop
  | 0, listed, a, w => Region.ready md ops listed = [] ∧ Q .normal a w
  | fuel + 1, listed, a, w =>
    (Region.ready md ops listed = [] → Q .normal a w) ∧
    ∀ i ∈ Region.ready md ops listed, wpOp P ops Q i (fun a' w' => (i ≠ z → S w') ∧ wpZ P md ops Q S z fuel (listed.setIfInBounds i true) a' w') a w

theorem wpAny_of_Z : ∀ (fuel : Nat) (listed : Array Bool) (a : Act) (w : World), wpZ P md ops Q S z fuel listed a w → wpAny P md ops Q fuel listed a w
  | 0, _, _, _, h => h
  | fuel + 1, _, _, _, h => ⟨h.1, fun i hi => wpOp_mono (fun a' w' h' => wpAny_of_Z fuel _ a' w' h'.2) (h.2 i hi)⟩

/-- of L each waits for i, or for another of L; none of them has come up -/
def Chain (md : Region.Mode) (ops : Array Oper) (i : Nat) (L : List Nat) (listed : Array Bool) : Prop :=
  ∀ y ∈ L, listed.getD y true = false ∧ ∀ o, ops[y]? = some o → ∃ e ∈ o.after, Region.binds md e = true ∧ (e.on = i ∨ e.on ∈ L)
theorem Chain.waits {i : Nat} {L : List Nat} {listed : Array Bool} (h : Chain md ops i L listed) (hi : listed.getD i true = false) {j : Nat} (hj : j ∈ Region.ready md ops listed) : j ∉ L := by
  intro hL
  obtain ⟨hjun, oj, hoj, hall⟩ := mem_ready.1 hj
  obtain ⟨_, h2⟩ := h j hL
  obtain ⟨e, he, hb, hon⟩ := h2 oj hoj
  have h1 := hall e he hb
  have h0 : listed.getD e.on true = false := by
    rcases hon with hon | hon
    · rw [hon]; exact hi
    · exact (h e.on hon).1
  rcases Nat.lt_or_ge e.on listed.size with h' | h'
  · simp [h'] at h0 h1; rw [h0] at h1; cases h1
  · simp [Array.getElem?_eq_none h'] at h1
theorem Chain.step {i : Nat} {L : List Nat} {listed : Array Bool} (h : Chain md ops i L listed) {j : Nat} (hj : j ∉ L) : Chain md ops i L (listed.setIfInBounds j true) := by
  intro y hy
  obtain ⟨h1, h2⟩ := h y hy
  exact ⟨by rw [getD_set_ne true (fun e => hj (by rw [e]; exact hy))]; exact h1, h2⟩
def chainB (md : Region.Mode) (ops : Array Oper) (i : Nat) (L : List Nat) (listed : Array Bool) : Bool :=
  L.all fun y => !(listed.getD y true) && match ops[y]? with
    | some o => o.after.any fun e => Region.binds md e && (e.on == i || L.contains e.on)
    | none => true
theorem chain_of {i : Nat} {L : List Nat} {listed : Array Bool} (h : chainB md ops i L listed = true) : Chain md ops i L listed := by
  intro y hy
  have h1 := List.all_eq_true.1 h y hy
  simp only [Bool.and_eq_true, Bool.not_eq_true'] at h1
  refine ⟨h1.1, fun o ho => ?_⟩
  have h2 := h1.2
  simp only [ho] at h2
  obtain ⟨e, he, hb⟩ := Array.any_eq_true'.1 h2
  simp only [Bool.and_eq_true, Bool.or_eq_true, beq_iff_eq, List.contains_iff_mem] at hb
  exact ⟨e, he, hb.1, hb.2⟩

theorem wpZ_first {i : Nat} {oi : Oper} {v : Value} {L : List Nat} (hz : z ∈ L) (hi : ops[i]? = some oi) (hsel : ∀ (j : Nat) (o : Oper) cs b, ops[j]? = some o → o.op ≠ .select cs b)
    (hQ : ∀ c a w, Q (.panic c) (a.put oi.dst v) w → Q (.panic c) a w) :
    ∀ (fuel : Nat) (listed : Array Bool) (a : Act) (w : World),
      (∀ j oj, ops[j]? = some oj → j ≠ i → listed.getD j true = false → (∀ e ∈ oj.after, Region.binds md e = true → e.on ≠ i) → oi.apart ops oj = true) →
      Chain md ops i L listed → i ∈ Region.ready md ops listed → YieldsIf P ops S oi v a → S w →
      wpZ P md ops Q S z fuel (listed.setIfInBounds i true) (a.put oi.dst v) w → wpZ P md ops Q S z (fuel + 1) listed a w := by
  intro fuel
  induction fuel with
  | zero =>
    intro listed a w _ _ hr hy hS H
    refine ⟨fun h => (by rw [h] at hr; cases hr), fun j hj => ?_⟩
    by_cases hji : j = i
    · subst hji; exact hy.wpOp hi hS ⟨fun _ => hS, H⟩
    · have := ready_mono hj hji
      rw [H.1] at this
      cases this
  | succ fuel ih =>
    intro listed a w hfree hch hr hy hS H
    refine ⟨fun h => (by rw [h] at hr; cases hr), fun j hj => ?_⟩
    by_cases hji : j = i
    · subst hji; exact hy.wpOp hi hS ⟨fun _ => hS, H⟩
    · have h1 := H.2 j (ready_mono hj hji)
      obtain ⟨hjun, oj, hoj, hall⟩ := mem_ready.1 hj
      have hjL := hch.waits (mem_ready.1 hr).1 hj
      have hnot : ∀ e ∈ oj.after, Region.binds md e = true → e.on ≠ i := fun e he hb heq => by
        have h1 := hall e he hb
        have h0 := (mem_ready.1 hr).1
        rw [heq] at h1
        rcases Nat.lt_or_ge i listed.size with h' | h'
        · simp [h'] at h0 h1; rw [h0] at h1; cases h1
        · simp [Array.getElem?_eq_none h'] at h1
      have h2 := wpOp_putIf hoj (hfree j oj hoj hji hjun hnot) (fun cs b => hsel i oi cs b hi) (fun cs b => hsel j oj cs b hoj) hQ hy h1
      have hfree' : ∀ k ok, ops[k]? = some ok → k ≠ i → (listed.setIfInBounds j true).getD k true = false →
          (∀ e ∈ ok.after, Region.binds md e = true → e.on ≠ i) → oi.apart ops ok = true := fun k ok hk hki hun hno => by
        refine hfree k ok hk hki ?_ hno
        by_cases hjk : j = k
        · subst hjk; exact hjun
        · rw [getD_set_ne true hjk] at hun; exact hun
      have hjz : j ≠ z := fun e => hjL (e ▸ hz)
      refine wpOp_mono (fun a' w' h3 => ⟨fun _ => h3.2.1 hjz, ih (listed.setIfInBounds j true) a' w' hfree' (hch.step hjL) (ready_mono hr (Ne.symm hji)) h3.1 (h3.2.1 hjz) ?_⟩) h2
      rw [Array.setIfInBounds_comm _ _ hji]
      exact h3.2.2

/-- Take number i first. -/
theorem wpZ_take {i : Nat} {oi : Oper} {v : Value} {fuel : Nat} {listed : Array Bool} {a : Act} {w : World} (L : List Nat) (hz : L.contains z = true) (hi : ops[i]? = some oi) (hch : chainB md ops i L listed = true)
    (hs : Region.noSelect ops = true) (hf : Region.free md ops listed i = true) (hr : (Region.ready md ops listed).contains i = true)
    (hQ : ∀ c a w, Q (.panic c) (a.put oi.dst v) w → Q (.panic c) a w) (hw : Region.wanted oi (yielded ops a.tmps) = true) (hS : S w) (hy : ∀ w, S w → (execOp a.eval oi).run P w = .ok (.value v) w)
    (h : wpZ P md ops Q S z fuel (listed.setIfInBounds i true) (a.put oi.dst v) w) : wpZ P md ops Q S z (fuel + 1) listed a w :=
  wpZ_first (by simpa using hz) hi (Region.noSelect_spec hs) hQ fuel listed a w (Region.free_spec hi hf) (chain_of hch) (by simpa using hr) (.inl ⟨hw, hy⟩) hS h

/-- One alone may come up: it is carried out. -/
theorem wpZ_one {i : Nat} {o : Oper} {fuel : Nat} {listed : Array Bool} {a : Act} {w : World} (hr : Region.ready md ops listed = [i]) (ho : ops[i]? = some o)
    (h : ∀ K' : Act → World → Prop, Shut (∀ a w, (i ≠ z → S w) → wpZ P md ops Q S z fuel (listed.setIfInBounds i true) a w → K' a w) → if Region.wanted o (yielded ops a.tmps) = true then Oper.wp P o a w K' Q else K' (a.put o.dst undef) w) :
    wpZ P md ops Q S z (fuel + 1) listed a w := by
  refine ⟨fun h0 => absurd (hr ▸ h0) (by simp), fun j hj => ?_⟩
  rw [hr] at hj
  obtain rfl : j = i := by simpa using hj
  exact wpOp_step ho (fun K' hK => h K' (fun a w hS hW => hK a w ⟨hS, hW⟩))
theorem wpZ_done {listed : Array Bool} {a : Act} {w : World} (hr : Region.ready md ops listed = []) (h : Q .normal a w) : ∀ fuel, wpZ P md ops Q S z fuel listed a w
  | 0 => ⟨hr, h⟩
  | _ + 1 => ⟨fun _ => h, by rw [hr]; simp⟩
theorem wp_region_Z {id : Nat} {a : Act} {w : World} (S : World → Prop) (z : Nat) (hm : P.follows .mixedOrders = true)
    (h : wpZ P .any ops Q S z ops.size (Array.replicate ops.size false) a w.drew) : (Code.region id ops true).wp P Q a w :=
  wp_region_any hm (wpAny_of_Z _ _ _ _ h)
end

end Go.Proofs.YtdlemkmkheokkaaDoor
