/- Contracts of cache.Forget's callees: Index, Contains, IndexFunc, ContainsFunc, the closures. -/
import Derived.Test.YtdlemkmkheokkaaDoorCh
namespace Go.Proofs.YtdlemkmkheokkaaDoor
open Go.RowKit

/-- numbers in memory, from a block's first cell on -/
def Nums (w : World) (g : Nat) (l : List Int) : Prop := ∀ (j : Nat) (z : Int), l[j]? = some z → w.cell? ⟨g, j, none⟩ = some (.int .i64 z)
theorem Nums.of {w w' : World} {g : Nat} {l : List Int} (h : Nums w g l) (e : w'.heap[g]? = w.heap[g]?) : Nums w' g l := fun j z hz => (World.cell?_of_block (w := w) (w' := w') (a := ⟨g, j, none⟩) e).trans (h j z hz)

set_option maxHeartbeats 800000 in
theorem index93 (g cap : Nat) (l : List Int) (x : Int) (w : World) (h : Nums w g l) (hl : l.length ≤ 1000) :
    Calls Tryd.prog 93 #[.slice (some ⟨g, 0, none⟩) l.length cap, .int .i64 x] w fun e w' => (∃ r : Int, e = .returned (.int .i64 r) ∧ decide (0 ≤ r) = decide (x ∈ l)) ∧ w = w' := by
  have H := Lib.hid h
  clear h
  go_enter Tryd.func93, Tryd.ntmps93
  go_wp2
  go_loop [8] (fun t => ∃ i : Nat, i ≤ l.length ∧ t = .int .i64 i ∧ ∀ j z, j < i → l[j]? = some z → z ≠ x) (fun t => (l.length - intOf t).toNat)
  case atStart => exact ⟨0, by omega, rfl, fun j z hj => absurd hj (Nat.not_lt_zero j)⟩
  case round =>
    obtain ⟨i, hi, rfl, hno⟩ := hrel
    have HNO := Lib.hid hno
    clear hno
    by_cases hil : i < l.length
    · obtain ⟨z, hz⟩ : ∃ z, l[i]? = some z := ⟨l[i], List.getElem?_eq_getElem hil⟩
      have d0 := H.out i z hz
      have HZ := Lib.hid hz
      have hb : decide ((i : Int) < (l.length : Int)) = true := by simp; omega
      clear hz
      by_cases hx : x = z
      · have hm : Hid (x ∈ l) := by rw [hx]; exact List.mem_of_getElem? HZ.out
        have e : (x == z) = true := by simpa using hx
        clear hx
        go_wp2
        go_ret
        exact ⟨⟨i, rfl, by simp [hm.out]⟩, rfl⟩
      · have e : (x == z) = false := by simpa using hx
        have HX := Lib.hid hx
        clear hx
        go_wp2
        go_round
        case rel => exact ⟨i + 1, by omega, by go_num, fun j z' hj hz' => by
          by_cases hji : j = i
          · subst hji
            have := HZ.out.symm.trans hz'
            simp at this
            subst this
            exact fun e => HX.out e.symm
          · exact HNO.out j z' (by omega) hz'⟩
        case measure => simp [intOf]; omega
    · obtain rfl : i = l.length := by omega
      have hb : decide ((l.length : Int) < (l.length : Int)) = false := by simp
      have hm : Hid (¬ x ∈ l) := fun hm => by
        obtain ⟨j, hj, e⟩ := List.getElem_of_mem hm
        exact HNO.out j x hj (by rw [List.getElem?_eq_getElem hj, e]) rfl
      go_wp2
      go_ret
      exact ⟨⟨-1, rfl, by simp [hm.out]⟩, rfl⟩

set_option maxHeartbeats 800000 in
theorem contains79 (g cap : Nat) (l : List Int) (x : Int) (w : World) (h : Nums w g l) (hl : l.length ≤ 1000) :
    Calls Tryd.prog 79 #[.slice (some ⟨g, 0, none⟩) l.length cap, .int .i64 x] w fun e w' => e = .returned (.bool (decide (x ∈ l))) ∧ w = w' := by
  have IX := Lib.hid (index93 g cap l x w h hl)
  clear h
  obtain ⟨b, hb⟩ : ∃ b, b = decide (x ∈ l) := ⟨_, rfl⟩
  rw [← hb] at IX ⊢
  clear hb
  go_enter Tryd.func79, Tryd.ntmps79
  go_wp2_with (fail)
  go_at_call 93
  refine (IX.out).mono ?_
  rintro e w' ⟨⟨r, rfl, hr⟩, rfl⟩
  have hr' : decide (r ≥ 0) = b := hr
  go_wp2
  go_ret
  exact ⟨rfl, rfl⟩

set_option maxHeartbeats 800000 in
theorem told78 (bb g cap : Nat) (l : List Int) (x : Int) (w : World) (h : Nums w g l) (hl : l.length ≤ 1000) (hb : w.cell? ⟨bb, 0, none⟩ = some (.slice (some ⟨g, 0, none⟩) l.length cap)) :
    Calls Tryd.prog 78 #[.int .i64 x, .pointer (some ⟨bb, 0, none⟩)] w fun e w' => e = .returned (.bool (decide (x ∈ l))) ∧ w = w' := by
  have CT := Lib.hid (contains79 g cap l x w h hl)
  clear h
  obtain ⟨b, hb⟩ : ∃ b, b = decide (x ∈ l) := ⟨_, rfl⟩
  rw [← hb] at CT ⊢
  clear hb
  go_enter Tryd.func78, Tryd.ntmps78
  go_wp2_with (go_at_call 79; refine (CT.out).mono ?_; rintro e w' ⟨rfl, rfl⟩)
  go_ret
  exact ⟨rfl, rfl⟩

/-- does a way go through one of these nodes? -/
def thr (l ns : List Int) : Bool := ns.any fun z => decide (z ∈ l)
theorem Ints.cells {w : World} {lo : Nat} {v : Value} {ns : List Int} (h : Ints w lo v ns) : ∃ A cap, v = .slice A ns.length cap ∧ (ns ≠ [] → ∃ g, A = some ⟨g, 0, none⟩ ∧ Nums w g ns) := by
  rcases h.2 with ⟨h1, h2⟩ | ⟨g, cap, cur, rfl, _⟩
  · exact ⟨none, 0, by rw [h1, h2], fun e => absurd (List.length_eq_zero_iff.1 h2) e⟩
  · refine ⟨_, cap, rfl, fun _ => ⟨g, rfl, fun j z hz => ?_⟩⟩
    have := World.ownsRow.cells h (g := g) rfl j (.int .i64 z) (by rw [List.getElem?_map, hz]; rfl)
    rwa [Addr.add_mid, Nat.zero_add] at this

set_option maxHeartbeats 800000 in
theorem index92 (bb g cap : Nat) (l : List Int) (lo : Nat) (v : Value) (ns : List Int) (w : World) (h : Nums w g l) (hl : l.length ≤ 1000) (hb : w.cell? ⟨bb, 0, none⟩ = some (.slice (some ⟨g, 0, none⟩) l.length cap)) (hv : Ints w lo v ns) (hn : ns.length ≤ 1000) :
    Calls Tryd.prog 92 #[v, .func (.func 78) #[] #[.pointer (some ⟨bb, 0, none⟩)]] w fun e w' => (∃ r : Int, e = .returned (.int .i64 r) ∧ decide (0 ≤ r) = thr l ns) ∧ w = w' := by
  have TD := Lib.hid (fun x => told78 bb g cap l x w h hl hb)
  obtain ⟨A, c, rfl, hA⟩ := hv.cells
  have HA := Lib.hid hA
  clear h hb hv hA
  go_enter Tryd.func92, Tryd.ntmps92
  go_wp2
  go_loop [8] (fun t => ∃ i : Nat, i ≤ ns.length ∧ t = .int .i64 i ∧ ∀ j z, j < i → ns[j]? = some z → ¬ z ∈ l) (fun t => (ns.length - intOf t).toNat)
  case atStart => exact ⟨0, by omega, rfl, fun j z hj => absurd hj (Nat.not_lt_zero j)⟩
  case round =>
    obtain ⟨i, hi, rfl, hno⟩ := hrel
    have HNO := Lib.hid hno
    clear hno
    by_cases hil : i < ns.length
    · obtain ⟨z, hz⟩ : ∃ z, ns[i]? = some z := ⟨ns[i], List.getElem?_eq_getElem hil⟩
      obtain ⟨gn, rfl, hN⟩ := HA.out (by rintro rfl; simp at hil)
      have d0 := hN i z hz
      have HZ := Lib.hid hz
      have hb : decide ((i : Int) < (ns.length : Int)) = true := by simp; omega
      have TZ := Lib.hid (TD.out z)
      clear hz hN
      by_cases hx : z ∈ l
      · have hm : Hid (thr l ns = true) := List.any_eq_true.2 ⟨z, List.mem_of_getElem? HZ.out, by simpa using hx⟩
        have e : decide (z ∈ l) = true := by simpa using hx
        rw [e] at TZ
        clear hx e
        go_wp2_with (go_at_call 78; refine (TZ.out).mono ?_; rintro e w' ⟨rfl, rfl⟩)
        go_ret
        exact ⟨⟨i, rfl, by rw [hm.out]; simp⟩, rfl⟩
      · have e : decide (z ∈ l) = false := by simpa using hx
        rw [e] at TZ
        have HX := Lib.hid hx
        clear hx e
        go_wp2_with (go_at_call 78; refine (TZ.out).mono ?_; rintro e w' ⟨rfl, rfl⟩)
        go_round
        case rel => exact ⟨i + 1, by omega, by go_num, fun j z' hj hz' => by
          by_cases hji : j = i
          · subst hji
            have := HZ.out.symm.trans hz'
            simp at this
            subst this
            exact HX.out
          · exact HNO.out j z' (by omega) hz'⟩
        case measure => simp [intOf]; omega
    · obtain rfl : i = ns.length := by omega
      have hb : decide ((ns.length : Int) < (ns.length : Int)) = false := by simp
      have hm : Hid (thr l ns = false) := by
        show thr l ns = false
        refine Bool.eq_false_iff.2 fun ht => ?_
        obtain ⟨z, hz, e⟩ := List.any_eq_true.1 ht
        obtain ⟨j, hj, ej⟩ := List.getElem_of_mem hz
        exact HNO.out j z hj (by rw [List.getElem?_eq_getElem hj, ej]) (by simpa using e)
      go_wp2
      go_ret
      exact ⟨⟨-1, rfl, by rw [hm.out]; simp⟩, rfl⟩

set_option maxHeartbeats 800000 in
theorem contains77 (bb g cap : Nat) (l : List Int) (lo : Nat) (v : Value) (ns : List Int) (w : World) (h : Nums w g l) (hl : l.length ≤ 1000) (hb : w.cell? ⟨bb, 0, none⟩ = some (.slice (some ⟨g, 0, none⟩) l.length cap)) (hv : Ints w lo v ns) (hn : ns.length ≤ 1000) :
    Calls Tryd.prog 77 #[v, .func (.func 78) #[] #[.pointer (some ⟨bb, 0, none⟩)]] w fun e w' => e = .returned (.bool (thr l ns)) ∧ w = w' := by
  have IX := Lib.hid (index92 bb g cap l lo v ns w h hl hb hv hn)
  obtain ⟨A, c, rfl⟩ := hv.arr
  clear h hv hb
  obtain ⟨b, hb⟩ : ∃ b, b = thr l ns := ⟨_, rfl⟩
  rw [← hb] at IX ⊢
  clear hb
  go_enter Tryd.func77, Tryd.ntmps77
  go_wp2_with (fail)
  go_at_call 92
  refine (IX.out).mono ?_
  rintro e w' ⟨⟨r, rfl, hr⟩, rfl⟩
  have hr' : decide (r ≥ 0) = b := hr
  go_wp2
  go_ret
  exact ⟨rfl, rfl⟩

set_option maxHeartbeats 800000 in
theorem told76 (bb g cap : Nat) (l : List Int) (lo : Nat) (c : CW) (v : Value) (w : World) (h : Nums w g l) (hl : l.length ≤ 1000) (hgl : g < w.heap.size) (hb : w.cell? ⟨bb, 0, none⟩ = some (.slice (some ⟨g, 0, none⟩) l.length cap)) (hbl : bb < w.heap.size) (hv : Ints w lo v c.ns) (hn : c.ns.length ≤ 1000) :
    Calls Tryd.prog 76 #[.agg (wayVals c v).toArray, .pointer (some ⟨bb, 0, none⟩)] w (BoolBelow w (thr l c.ns)) := by
  obtain ⟨A, cp, rfl⟩ := hv.arr
  have CT := Lib.hid (fun o => contains77 bb g cap l lo (.slice A c.ns.length cp) c.ns (w.alloc o) (h.of (Below.heap_alloc w o g hgl)) hl ((World.cell?_of_block (w := w) (w' := w.alloc o) (a := ⟨bb, 0, none⟩) (Below.heap_alloc w o bb hbl)).trans hb) (hv.of fun x hx => Below.heap_alloc w o x (hv.lt x hx).2) hn)
  clear h hv hb
  simp only [wayVals]
  obtain ⟨b, hb⟩ : ∃ b, b = thr l c.ns := ⟨_, rfl⟩
  rw [← hb] at CT ⊢
  clear hb
  go_enter Tryd.func76, Tryd.ntmps76
  go_wp2_with (fail)
  go_at_call 77
  refine (CT.out _).mono ?_
  rintro e w' ⟨rfl, rfl⟩
  go_wp2
  go_ret
  exact ⟨rfl, (Below.refl _ _).alloc (Nat.le_refl _) _⟩
end Go.Proofs.YtdlemkmkheokkaaDoor
