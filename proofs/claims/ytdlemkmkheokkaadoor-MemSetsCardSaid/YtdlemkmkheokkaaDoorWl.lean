/- Contracts of path.Walk and of the closure that path.Nodes hands over. -/
import Derived.Test.YtdlemkmkheokkaaDoorWk
namespace Go.Proofs.YtdlemkmkheokkaaDoor
open Go.RowKit

set_option maxHeartbeats 400000 in
theorem way_any (S : SA) (C : SC) (k : K) (addr : Int) (w : World) (h : Sto w S C) (ha0 : 0 ≤ addr) (ha1 : addr < 4294967296) :
    Calls Tryd.prog 23 #[.pointer (some ⟨S.s, 0, none⟩), k.v, .int .u32 addr] w (WayP w (wayF C k addr)) := by
  have WK := Lib.hid (fun W (hW : Sto W S C) => walk_any S C k addr W hW ha0 ha1)
  have H := Lib.hid h
  clear h
  obtain ⟨R, hR⟩ : ∃ R, R = wayF C k addr := ⟨_, rfl⟩
  rw [← hR] at WK ⊢
  clear hR
  go_enter Tryd.func23, Tryd.ntmps23
  go_wp2_with (fail)
  go_at_call 56
  refine (WK.out _ (H.out.below (((Below.refl _ w).alloc (Nat.le_refl _) _).alloc (by simp) _))).mono ?_
  rintro e w1 ⟨rfl, hb1⟩
  have hpl := (((Row.new (w.alloc (.cells #[.int .i64 k.kind, .int .i64 k.id, .int .i64 k.ver, .int .i64 k.rights, .int .u32 k.data] 36)) #[.int .i64 0, .int .i64 0, .bool false] 41 3 (plCell 0 0 false) rfl
        (fun i hi => by rcases (by omega : i = 0 ∨ i = 1 ∨ i = 2) with rfl | rfl | rfl <;> rfl)))).below hb1
  rw [World.size_alloc] at hpl
  obtain ⟨p0, p1, p2, q0, q1, q2⟩ := pl_facts hpl
  have HB1 := Lib.hid hb1
  clear hb1 hpl
  go_wp2
  exact bodyPost_ret (v := .tuple #[.agg #[.int .i64 R.page, .int .i64 R.at_, .bool R.ro], .int .i64 R.fault]) (by simp [results, Tryd.results23, go_sem, p0, p1, p2]) rfl
    ⟨rfl, place_below ((((Below.refl _ w).alloc (Nat.le_refl _) _).alloc (by simp) _).trans (HB1.out.mono (by simp; omega))) _ _ _⟩

/-- a slice of whole numbers in memory of its own -/
def Ints (w : World) (lo : Nat) (v : Value) (ns : List Int) : Prop := w.ownsRow lo 3 1 v ns.length (ns.map fun n => Value.int .i64 n)

theorem Ints.nil (w : World) (lo : Nat) : Ints w lo (.slice none 0 0) [] := w.ownsRow_nil lo 3 1
theorem Ints.of {w w' : World} {lo : Nat} {v : Value} {ns : List Int} (h : Ints w lo v ns) (e : ∀ g, v.ownBlock = some g → w'.heap[g]? = w.heap[g]?) : Ints w' lo v ns := by
  obtain ⟨h1, h2⟩ := h
  refine ⟨h1, ?_⟩
  rcases h2 with h2 | ⟨g, cap, cur, hv, hlo, hg, r⟩
  · exact .inl h2
  · exact .inr ⟨g, cap, cur, hv, hlo, by rw [e g (by rw [hv]; rfl)]; exact hg, r⟩
theorem Ints.lt {w : World} {lo : Nat} {v : Value} {ns : List Int} (h : Ints w lo v ns) (g : Nat) (hg : v.ownBlock = some g) : lo ≤ g ∧ g < w.heap.size := World.ownsRow.lt h g hg
theorem Ints.lower {w : World} {lo lo' : Nat} {v : Value} {ns : List Int} (h : Ints w lo v ns) (hl : lo' ≤ lo) : Ints w lo' v ns := by
  obtain ⟨h1, h2⟩ := h
  refine ⟨h1, ?_⟩
  rcases h2 with h2 | ⟨g, cap, cur, hv, hlo, r⟩
  · exact .inl h2
  · exact .inr ⟨g, cap, cur, hv, by omega, r⟩

def Told (base bc : Nat) (t : TypeId) (ns : List Int) (id : Int) (W : World) (e : Ending) (W' : World) : Prop :=
  ∃ v', e = .returned (.tuple #[]) ∧ W'.heap[bc]? = some (.cells #[v'] t (0, 0)) ∧ Ints W' base v' (ns ++ [id]) ∧ Only (fun x => x = bc ∨ base ≤ x) W W'

theorem info3 : (Tryd.prog.info? 3).map (fun i => (i.zero, i.size, i.bytes)) = some (some (.int .i64 0), 1, 8) := by kernel_rfl

set_option maxHeartbeats 400000 in
theorem nodes1_any (base bc : Nat) (t : TypeId) (v : Value) (ns : List Int) (id : Int) (W : World) (hc : W.heap[bc]? = some (.cells #[v] t (0, 0))) (ho : Ints W base v ns) (hlt : bc < base) (hb : base ≤ W.heap.size) (hn : ns.length ≤ 100) :
    Calls Tryd.prog 68 #[.int .i64 id, .pointer (some ⟨bc, 0, none⟩)] W (Told base bc t ns id W) := by
  obtain ⟨i0, hi, hz0, hz1, hz2⟩ := info_parts info3
  have c0 : W.cell? ⟨bc, 0, none⟩ = some v := by simp [World.cell?, hc]
  have HC := Lib.hid hc
  have HO := Lib.hid (show W.ownsRow base 3 1 v ns.length (ns.map fun n => Value.int .i64 n) from ho)
  have HI := Lib.hid hi
  have HZ0 := Lib.hid hz0
  have HZ1 := Lib.hid hz1
  have HZ2 := Lib.hid hz2
  clear hc ho hi hz0 hz1 hz2
  go_enter Tryd.func68, Tryd.ntmps68
  go_wp2_with (at_builtin; refine wpList_append_own _ rfl (.tmp 3) (.tmp 5) 62 rfl base 3 i0 (.int .i64 0) 1 8 Tryd.underlying62 HI.out HZ0.out HZ1.out HZ2.out rfl (by decide) v ns.length (ns.map fun n => Value.int .i64 n) rfl (HO.out.alloc _) ⟨W.heap.size, 0, none⟩ 1 1 [.int .i64 id] rfl rfl (cell_one_new _ _ _) ?c1 ?c2 ?c3 ?c4 ?next)
  case c1 => intro u hu; simp at hu; rw [hu]; rfl
  case c2 => simp only [maxLen]; omega
  case c3 => omega
  case c4 => simp; omega
  case next =>
    intro v' w1 hown hgrow _
    have hne : some bc ≠ v.ownBlock := by
      intro e
      have := (World.ownsRow.lt HO.out bc e.symm).1
      omega
    have hb1 : w1.heap[bc]? = some (.cells #[v] t (0, 0)) := by
      rw [hgrow.block bc (by simp; omega) hne, Below.heap_alloc _ _ _ (by omega)]
      exact HC.out
    have d0 : w1.cell? ⟨bc, 0, none⟩ = some v := by simp [World.cell?, hb1]
    have f0 : w1.frozen? ⟨bc, 0, none⟩ = false := by simp [World.frozen?, hb1]
    have HB1 := Lib.hid hb1
    have hsl : ∃ A m cap, v' = .slice A m cap := by
      rcases hown.2 with ⟨h, _⟩ | ⟨g, cap, cur, h, _⟩
      · exact ⟨_, _, _, h⟩
      · exact ⟨_, _, _, h⟩
    obtain ⟨A, m, cap, rfl⟩ := hsl
    have HOWN := Lib.hid hown
    have HG := Lib.hid hgrow
    clear hb1 hown hgrow hne
    go_wp2
    go_end0
    have e1 : (w1.setCell ⟨bc, 0, none⟩ (.slice A m cap)).heap[bc]? = some (.cells #[.slice A m cap] t (0, 0)) := by
      have := heap_setCell_same w1 bc 0 #[v] t (.slice A m cap) HB1.out
      simpa using this
    refine ⟨_, rfl, e1, ?_, ?_⟩
    · refine Ints.of (w := w1) ?_ (fun g hg => ?_)
      · have := HOWN.out
        simp only [Ints, List.length_append, List.map_append, List.length_cons, List.length_nil, List.map_cons, List.map_nil]
        exact this
      · have := (World.ownsRow.lt HOWN.out g hg).1
        exact Below.heap_setCell _ _ _ _ (by simp; omega)
    · have hg := HG.out
      have hsz : W.heap.size ≤ w1.heap.size := by have := hg.size; simp at this; omega
      have o1 : Only (fun x => x = bc ∨ base ≤ x) W w1 := ⟨hg.os, hg.tape, hg.output, hsz, fun k hk hx => by
        rw [hg.block k (by simp; omega) (fun e => hx (.inr (World.ownsRow.lt HO.out k e.symm).1)), Below.heap_alloc _ _ _ hk]⟩
      exact o1.setCell ⟨bc, 0, none⟩ _ (.inl (.inl rfl))

end Go.Proofs.YtdlemkmkheokkaaDoor
