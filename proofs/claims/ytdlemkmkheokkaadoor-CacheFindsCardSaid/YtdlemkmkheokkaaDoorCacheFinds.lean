/- turnkey/turnkeylaw10.CacheFinds answers true for every input, the listed errors being what the program's text makes them: the row and the tied card. -/
import Derived.Test.YtdlemkmkheokkaaDoorR2
import Derived.Test.YtdlemkmkheokkaaDoorVc
import Derived.Test.YtdlemkmkheokkaaDoorTie
import Derived.Test.YtdlemkmkheokkaaDoorCards
import Derived.SevenTiedAt
import Derived.Carry
namespace Go.Proofs.YtdlemkmkheokkaaDoor.cacheFinds
open Go Go.ChangeShapes Go.WideShapes Go.RowKit

theorem laidOut : laidOutB Tryd.prog = true := by kernel_rfl
set_option maxRecDepth 100000 in
theorem lifted (os : Os) (started : os.Started) (H : Type) (enc : TypeId × Value → H) :
    ReturnsInHanded {} Tryd.checked os 13 .any (fun w args => (Rows.cacheFindsSpec.pre enc Tryd.prog Tryd.f13 [] false w args ∧ laidMet Tryd.prog laid5 w) ∧ sizedMet enc Tryd.prog Tryd.f13 (OpenSpec.ofChange Rows.cacheFindsSpec) false w args)
      (Rows.cacheFindsSpec.post enc Tryd.prog Tryd.f13 false true false false) := by
  refine returnsInHanded_of_change_and (C := Tryd.checked) (X := fun w _ => laidMet Tryd.prog laid5 w) (fun _ _ _ hh h => h.of_heap hh) own started (by kernel_rfl) Tryd.func13
    (ChangeSpec.witness_at (enc := enc) (C := Tryd.checked) (os := os) (X := fun w _ => laidMet Tryd.prog laid5 w) false (laidWorld os) #[.int .i64 0, .int .i64 0, .slice none 0 0, .slice none 0 0] 8 rfl (by kernel_rfl) (by kernel_rfl) (by kernel_rfl) (by kernel_rfl) (by kernel_rfl) (laidWorld_met os _)) ?_
  intro W base args ds gs before hval0 hW _ _ _ _
  have hval : ∀ (j : Nat) t v, Tryd.f13.params[j]? = some t → args[j]? = some v → Value.okWide Tryd.prog W .any base t v := hval0
  have hW' := hW
  obtain ⟨p, q, hA0, hV, rfl, hfz, hnd⟩ := hW
  have hA : DataW.TrodAll enc Tryd.prog W 0 (fun _ => true) true Tryd.f13.params.toList args.toList ds p := hA0
  rw [Tryd.params13] at hA hval
  obtain ⟨v0, vs0, d0, ds0, p0, q0, hargs, rfl, rfl, h0, r0⟩ := trodAll_cons hA
  obtain ⟨v1, vs1, d1, ds1, p1, q1, rfl, rfl, rfl, h1, r1⟩ := trodAll_cons r0
  obtain ⟨v2, vs2, d2, ds2, p2, q2, rfl, rfl, rfl, h2, r2⟩ := trodAll_cons r1
  obtain ⟨v3, vs3, d3, ds3, p3, q3, rfl, rfl, rfl, h3, r3⟩ := trodAll_cons r2
  obtain ⟨rfl, rfl, rfl⟩ := trodAll_nil r3
  obtain rfl : args = #[v0, v1, v2, v3] := by cases args; simp_all
  obtain ⟨rfl, rfl⟩ := trodVars_none hV
  obtain ⟨n0, rfl, rfl, rfl, w0⟩ := open_int Tryd.underlying3 (hval 0 3 v0 rfl rfl) h0
  obtain ⟨n1, rfl, rfl, rfl, w1⟩ := open_int Tryd.underlying3 (hval 1 3 v1 rfl rfl) h1
  obtain ⟨A2, len2, cap2, rfl⟩ := okWide_slice Tryd.underlying62 (hval 2 62 v2 rfl rfl)
  obtain ⟨A3, len3, cap3, rfl⟩ := okWide_slice Tryd.underlying80 (hval 3 80 v3 rfl rfl)
  have h2k := h2
  have h3k := h3
  obtain ⟨fuel2, hf2⟩ := h2
  obtain ⟨fuel3, hf3⟩ := h3
  clear hA0 hval0
  simp only [List.append_nil, List.nil_append] at hW'
  have hlt : ∀ x ∈ p2 ++ p3, x.block < W.heap.size := fun x hx => by simpa using hW'.lt x (by simpa using hx)
  have hargs2 : ∀ (W' : World), Below W.heap.size W W' → DataW.Trod enc Tryd.prog W' 0 (fun b => decide (b < W.heap.size)) true 62 (.slice A2 len2 cap2) d2 p2 :=
    fun W' hn => Below.trod laidOut (by kernel_rfl) (of_decide_eq_true (by kernel_rfl)) h2k hn (fun x hx => hlt x (List.mem_append_left _ hx))
  have hargs3 : ∀ (W' : World), Below W.heap.size W W' → DataW.Trod enc Tryd.prog W' 0 (fun b => decide (b < W.heap.size)) true 80 (.slice A3 len3 cap3) d3 p3 :=
    fun W' hn => Below.trod laidOut (by kernel_rfl) (of_decide_eq_true (by kernel_rfl)) h3k hn (fun x hx => hlt x (List.mem_append_right _ hx))
  simp only [Value.cells] at hf2 hf3
  obtain ⟨zs, g, off, hz1, hz2, hz3, hz4⟩ := open_l hf2
  obtain ⟨ds, g2, off2, hd1, hd2, hd3⟩ := open_dos hf3
  have key := cacheFinds_walk n0 n1 A2 zs cap2 A3 ds cap3 W g off g2 off2 hz3 hz4 (by omega) hd2 (fun j d hj => (hd3 j d hj).1) (fun d hd => by
    obtain ⟨j, hj, rfl⟩ := List.getElem_of_mem hd
    exact (hd3 j _ (List.getElem?_eq_getElem hj)).2)
  rw [hz1, hd1] at key
  refine key.mono fun e W' ⟨he, hb⟩ => ?_
  subst he
  exact ⟨_, rfl, _, _, _, [], _, [], hW', trodAll_cons_mk (shut_bool Tryd.underlying4 _) trodAll_mk0, trodAll_cons_mk (shut_int Tryd.underlying3 w0) (trodAll_cons_mk (shut_int Tryd.underlying3 w1) (trodAll_cons_mk (hargs2 _ hb) (trodAll_cons_mk (hargs3 _ hb) trodAll_mk0))), rfl, hb.frame _, fun h => by cases h⟩

theorem over : Rows.CacheFindsSaid :=
  OpenClaim.holds_of_wide 13 Tryd.f13 rfl rfl rfl rfl rfl rfl rfl ⟨rfl, rfl, rfl, rfl, rfl⟩ rfl rfl rfl rfl rfl (by kernel_rfl) Tryd.func13 (by kernel_rfl)
    (of_decide_eq_true (by kernel_rfl)) (by unfold Func.isWrapper; first | (rw [if_pos (by decide +kernel)]; kernel_rfl) | (rw [if_neg (by decide +kernel)]; exact ⟨rfl, rfl⟩))
    (fun os started H enc _ => lifted os started H enc)

/-- the statement: the tied card -/
theorem card_holds : Rows.CacheFindsCardSaid :=
  Claim7.holds_tied_plain_at .later [] [.sentinel, .sentinel, .sentinel, .sentinel, .sentinel] true (true, "6ef4188729e712c38804956ae1fe6ba82e9520c9fb0a8de3fd9b133471af8165") true
    over (fun _ h => by cases h) (by kernel_rfl) (fun _ h => by cases h) cacheFinds_row_tie rfl ⟨rfl, rfl⟩ (by kernel_rfl) rfl
    (fun f fn hf hfn => by
      obtain rfl : f = 13 := Option.some.inj ((show Tryd.prog.funcNamed "turnkey/turnkeylaw10.CacheFinds" = some 13 by kernel_rfl).symm.trans hf) |>.symm
      obtain rfl : fn = Tryd.f13 := (Option.some.inj (Tryd.func13.symm.trans hfn)).symm
      exact ⟨by kernel_rfl, fun j t ht => by
        rw [Tryd.params13] at ht
        have h3 : t = 3 ∨ t = 62 ∨ t = 80 := by
          rcases j with _ | _ | _ | _ | j
          all_goals first | (left; simpa using ht.symm) | (right; left; simpa using ht.symm) | (right; right; simpa using ht.symm) | (exfalso; simp at ht)
        rcases h3 with rfl | rfl | rfl
        · exact (show Tryd.prog.wantsStandIn 3 = false by kernel_rfl)
        · exact (show Tryd.prog.wantsStandIn 62 = false by kernel_rfl)
        · exact (show Tryd.prog.wantsStandIn 80 = false by kernel_rfl)⟩)
    (by kernel_rfl)
#print axioms card_holds
end Go.Proofs.YtdlemkmkheokkaaDoor.cacheFinds
