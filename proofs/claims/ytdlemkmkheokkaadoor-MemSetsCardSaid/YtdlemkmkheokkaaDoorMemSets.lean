/- turnkey/turnkeylaw11.MemSets answers true for every input, the six listed errors being what the program's text makes them: the row and the tied card. -/
import Derived.Test.YtdlemkmkheokkaaDoorR2
import Derived.Test.YtdlemkmkheokkaaDoorSd
import Derived.Test.YtdlemkmkheokkaaDoorTie
import Derived.Test.YtdlemkmkheokkaaDoorCards
import Derived.SevenTiedAt
import Derived.Carry
namespace Go.Proofs.YtdlemkmkheokkaaDoor.memSets
open Go Go.ChangeShapes Go.WideShapes Go.RowKit

abbrev sRight : ByteArray := { data := #[105, 116, 32, 108, 97, 99, 107, 115, 32, 116, 104, 101, 32, 114, 105, 103, 104, 116] }
abbrev laid6 {H : Type} : List (String × DataW H) := [("turnkey/api.ErrShape", Rows.laid_turnkey_api_ErrShape), ("turnkey/api.ErrRange", Rows.laid_turnkey_api_ErrRange), ("turnkey/api.ErrMany", Rows.laid_turnkey_api_ErrMany), ("turnkey/api.ErrNone", Rows.laid_turnkey_api_ErrNone), ("turnkey/api.ErrFull", Rows.laid_turnkey_api_ErrFull), ("turnkey/api.ErrRight", Rows.laid_turnkey_api_ErrRight)]
noncomputable def laidWorld6 (os : Os) : World :=
  let w0 := World.holding Tryd.prog os ⟨#[str sShape, str sRange, str sMany, str sNone, str sFull, str sRight], #[], []⟩
  { w0 with heap := lay low 5 5 (lay low 3 4 (lay low 1 3 (lay low 0 2 (lay low 2 1 (lay low 4 0 w0.heap))))) }
theorem laidWorld6_met (os : Os) (args : Array Value) : laidMet Tryd.prog laid6 ((laidWorld6 os).forCall (fun _ _ => 0) ⟨#[], args, []⟩).memory :=
  laidMet_of_run (ps := [.cell 4 0, .cell low 0, .cell 2 0, .cell (low + 1) 0, .cell 0 0, .cell (low + 2) 0, .cell 1 0, .cell (low + 3) 0, .cell 3 0, .cell (low + 4) 0, .cell 5 0, .cell (low + 5) 0]) 8 (by kernel_rfl) (by kernel_rfl) (by kernel_rfl)

theorem laidOut : laidOutB Tryd.prog = true := by kernel_rfl
theorem cellsE : Tryd.prog.cellsOf 3 = 1 := by kernel_rfl
set_option maxRecDepth 100000 in
theorem lifted (os : Os) (started : os.Started) (H : Type) (enc : TypeId × Value → H) :
    ReturnsInHanded {} Tryd.checked os 7 .any (fun w args => (Rows.memSetsSpec.pre enc Tryd.prog Tryd.f7 [] false w args ∧ laidMet Tryd.prog laid6 w) ∧ sizedMet enc Tryd.prog Tryd.f7 (OpenSpec.ofChange Rows.memSetsSpec) false w args)
      (Rows.memSetsSpec.post enc Tryd.prog Tryd.f7 false true false false) := by
  refine returnsInHanded_of_change_and (C := Tryd.checked) (X := fun w _ => laidMet Tryd.prog laid6 w) (fun _ _ _ hh h => h.of_heap hh) own started (by kernel_rfl) Tryd.func7
    (ChangeSpec.witness_at (enc := enc) (C := Tryd.checked) (os := os) (X := fun w _ => laidMet Tryd.prog laid6 w) false (laidWorld6 os) #[.slice none 0 0, .bool false] 8 rfl (by kernel_rfl) (by kernel_rfl) (by kernel_rfl) (by kernel_rfl) (by kernel_rfl) (laidWorld6_met os _)) ?_
  intro W base args ds gs before hval0 hW _ _ _ _
  have hval : ∀ (j : Nat) t v, Tryd.f7.params[j]? = some t → args[j]? = some v → Value.okWide Tryd.prog W .any base t v := hval0
  have hW' := hW
  obtain ⟨p, q, hA0, hV, rfl, hfz, hnd⟩ := hW
  have hA : DataW.TrodAll enc Tryd.prog W 0 (fun _ => true) true Tryd.f7.params.toList args.toList ds p := hA0
  rw [Tryd.params7] at hA hval
  obtain ⟨v0, vs0, d0, ds0, p0, q0, hargs, rfl, rfl, h0, r0⟩ := trodAll_cons hA
  obtain ⟨v1, vs1, d1, ds1, p1, q1, rfl, rfl, rfl, h1, r1⟩ := trodAll_cons r0
  obtain ⟨rfl, rfl, rfl⟩ := trodAll_nil r1
  obtain rfl : args = #[v0, v1] := by cases args; simp_all
  obtain ⟨rfl, rfl⟩ := trodVars_none hV
  obtain ⟨a0, len, cap, rfl⟩ := okWide_slice Tryd.underlying62 (hval 0 62 v0 rfl rfl)
  obtain ⟨a1, rfl, rfl, rfl⟩ := open_bool Tryd.underlying4 (hval 1 4 v1 rfl rfl) h1
  have h0k := h0
  obtain ⟨fuel, hf⟩ := h0
  clear hA0 hval0
  simp only [List.append_nil] at hW'
  have hlt : ∀ x ∈ p0, x.block < W.heap.size := fun x hx => by simpa using hW'.lt x (by simpa using hx)
  have hargs0 : ∀ (W' : World), Below W.heap.size W W' → DataW.Trod enc Tryd.prog W' 0 (fun b => decide (b < W.heap.size)) true 62 (.slice a0 len cap) d0 p0 :=
    fun W' hn => Below.trod laidOut (by kernel_rfl) (of_decide_eq_true (by kernel_rfl)) h0k hn hlt
  rcases open_ints Tryd.underlying62 Tryd.underlying3 cellsE hf with ⟨hcs, hx⟩ | ⟨a, len', cap', zs, hcs, _, hl, hm, hz, hx, hcell, hwz⟩
  · simp [Value.cells] at hcs
    obtain ⟨rfl, rfl, rfl⟩ := hcs
    refine (memSets_walk none [] 0 a1  W (fun h => absurd rfl h) (Nat.le_refl _) ).mono fun e W' ⟨he, hb⟩ => ?_
    subst he
    exact ⟨_, rfl, _, _, _, [], _, [], hW', trodAll_cons_mk (shut_bool Tryd.underlying4 _) trodAll_mk0, trodAll_cons_mk (hargs0 _ hb) (trodAll_cons_mk (shut_bool Tryd.underlying4 a1) trodAll_mk0), rfl, hb.frame _, fun h => by cases h⟩
  · simp [Value.cells] at hcs
    obtain ⟨rfl, rfl, rfl⟩ := hcs
    simp only [if_true] at hz
    have hlen : (zs.take len).length = len := by simp; omega
    have key := memSets_walk (some a) (zs.take len) cap a1  W (fun hne => ⟨a, rfl, by
      obtain ⟨z, hz'⟩ : ∃ z, (zs.take len)[0]? = some z := by
        cases hq : zs.take len with
        | nil => exact absurd hq hne
        | cons x xs => exact ⟨x, rfl⟩
      have h0 : 0 < zs.length := by
        have := (List.getElem?_eq_some_iff.1 hz').1
        rw [hlen] at this; omega
      have := World.block_lt_of_cell? W _ (hcell 0 h0)
      rwa [ms_block] at this, fun i z hi => by
      have h1 := (List.getElem?_eq_some_iff.1 hi).1
      rw [hlen] at h1
      rw [hcell i (by omega)]
      rw [List.getElem?_take_of_lt h1] at hi
      simp [List.getD, hi]⟩) (by omega) 
    rw [hlen] at key
    refine key.mono fun e W' ⟨he, hb⟩ => ?_
    subst he
    exact ⟨_, rfl, _, _, _, [], _, [], hW', trodAll_cons_mk (shut_bool Tryd.underlying4 _) trodAll_mk0, trodAll_cons_mk (hargs0 _ hb) (trodAll_cons_mk (shut_bool Tryd.underlying4 a1) trodAll_mk0), rfl, hb.frame _, fun h => by cases h⟩

theorem over : Rows.MemSetsSaid :=
  OpenClaim.holds_of_wide 7 Tryd.f7 rfl rfl rfl rfl rfl rfl rfl ⟨rfl, rfl, rfl, rfl, rfl⟩ rfl rfl rfl rfl rfl (by kernel_rfl) Tryd.func7 (by kernel_rfl)
    (of_decide_eq_true (by kernel_rfl)) (by unfold Func.isWrapper; first | (rw [if_pos (by decide +kernel)]; kernel_rfl) | (rw [if_neg (by decide +kernel)]; exact ⟨rfl, rfl⟩))
    (fun os started H enc _ => lifted os started H enc)

/-- the statement: the tied card -/
theorem card_holds : Rows.MemSetsCardSaid :=
  Claim7.holds_tied_plain_at .later [] [.sentinel, .sentinel, .sentinel, .sentinel, .sentinel, .sentinel] true (true, "6ef4188729e712c38804956ae1fe6ba82e9520c9fb0a8de3fd9b133471af8165") true
    over (fun _ h => by cases h) (by kernel_rfl) (fun _ h => by cases h) memSets_row_tie rfl ⟨rfl, rfl⟩ (by kernel_rfl) rfl
    (fun f fn hf hfn => by
      obtain rfl : f = 7 := Option.some.inj ((show Tryd.prog.funcNamed "turnkey/turnkeylaw11.MemSets" = some 7 by kernel_rfl).symm.trans hf) |>.symm
      obtain rfl : fn = Tryd.f7 := (Option.some.inj (Tryd.func7.symm.trans hfn)).symm
      exact ⟨by kernel_rfl, fun j t ht => by
        rw [Tryd.params7] at ht
        have h3 : t = 62 ∨ t = 4 := by
          rcases j with _ | _ | j
          all_goals first | (left; simpa using ht.symm) | (right; simpa using ht.symm) | (exfalso; simp at ht)
        rcases h3 with rfl | rfl
        · exact (show Tryd.prog.wantsStandIn 62 = false by kernel_rfl)
        · exact (show Tryd.prog.wantsStandIn 4 = false by kernel_rfl)⟩)
    (by kernel_rfl)
#print axioms card_holds
end Go.Proofs.YtdlemkmkheokkaaDoor.memSets
