/- The reference's system in memory: contracts of slots, New, Small. -/
import Derived.Test.YtdlemkmkheokkaaDoorL
import Derived.Test.YtdlemkmkheokkaaDoorWh
namespace Go.Proofs.YtdlemkmkheokkaaDoor
open Go.RowKit

def slot0 (l : Bool) (j : Nat) : Value := if j = 0 then .bool l else if j = 1 then .bool false else if j = 2 then .int .i64 0 else .int .i64 (-1)
def slot0L : List Value := [.bool false, .bool false, .int .i64 0, .int .i64 (-1)]
def slotsL : Nat → List Value
  | 0 => []
  | n + 1 => slotsL n ++ slot0L
theorem slotsL_len : ∀ n, (slotsL n).length = n * 4
  | 0 => rfl
  | n + 1 => by rw [slotsL, List.length_append, slotsL_len n]; simp [slot0L]; omega
theorem slotsL_get : ∀ n j, j < n * 4 → (slotsL n)[j]? = some (slot0 false (j % 4))
  | 0, _, h => by omega
  | n + 1, j, h => by
    rw [slotsL]
    by_cases hj : j < n * 4
    · rw [List.getElem?_append_left (by rw [slotsL_len]; exact hj)]; exact slotsL_get n j hj
    · rw [List.getElem?_append_right (by rw [slotsL_len]; omega), slotsL_len]
      have h4 : j % 4 = j - n * 4 := by omega
      rw [h4]
      rcases (by omega : j - n * 4 = 0 ∨ j - n * 4 = 1 ∨ j - n * 4 = 2 ∨ j - n * 4 = 3) with e | e | e | e <;> rw [e] <;> rfl

theorem info146 : (Tryd.prog.info? 146).map (fun i => (i.zero, i.size, i.bytes)) = some (some (.agg #[.bool false, .bool false, .int .i64 0, .int .i64 0]), 4, 24) := by kernel_rfl

def SlotsP (w : World) (n : Nat) (e : Ending) (w' : World) : Prop := ∃ v, e = .returned v ∧ w'.ownsRow w.heap.size 146 4 v n (slotsL n) ∧ Below w.heap.size w w'

set_option maxHeartbeats 400000 in
theorem slots_any (n : Nat) (w : World) (hn : n ≤ 256) : Calls Tryd.prog 99 #[.int .i64 n] w (SlotsP w n) := by
  obtain ⟨i0, hi, hz0, hz1, hz2⟩ := info_parts info146
  have HI := Lib.hid hi
  have HZ0 := Lib.hid hz0
  have HZ1 := Lib.hid hz1
  have HZ2 := Lib.hid hz2
  clear hi hz0 hz1 hz2
  go_enter Tryd.func99, Tryd.ntmps99
  go_wp2
  go_loopw [3, 4] (fun v i wr => ∃ k : Nat, k ≤ n ∧ i = .int .i64 k ∧ Hid (wr.ownsRow w.heap.size 146 4 v k (slotsL k)) ∧ Hid (Below w.heap.size w wr)) (fun _ i _ => n - (intOf i).toNat)
  case atStart => exact ⟨0, by omega, rfl, World.ownsRow_nil _ _ _ _, Below.refl _ _⟩
  case round =>
    obtain ⟨k, hk, rfl, HO, HB⟩ := hrel
    by_cases hlt : k < n
    · go_wp2_with (at_builtin; refine wpList_append_own _ rfl (.tmp 10) (.tmp 12) 138 rfl w.heap.size 146 i0 (.agg #[.bool false, .bool false, .int .i64 0, .int .i64 0]) 4 24 Tryd.underlying138 HI.out HZ0.out HZ1.out HZ2.out rfl (by decide) u3 k (slotsL k) rfl (HO.out.alloc _) ⟨wr.heap.size, 0, none⟩ 1 1 slot0L rfl rfl ?c0 ?c1 ?c2 ?c3 ?c4 ?next)
      case c0 =>
        intro j u hj
        have hj' : j < 4 := by
          by_cases h : j < 4
          · exact h
          · simp [slot0L, show 4 ≤ j by omega] at hj
        have hr := Row.new wr slot0L.toArray 146 4 (fun j => slot0L.getD j undef) rfl (fun i hi => by rcases (by omega : i = 0 ∨ i = 1 ∨ i = 2 ∨ i = 3) with rfl | rfl | rfl | rfl <;> rfl)
        rw [Addr.add_mid, Nat.zero_add]
        have := hr.cell j hj'
        rw [show wr.alloc (.cells #[.bool false, .bool false, .int .i64 0, .int .i64 (-1)] 146) = wr.alloc (.cells slot0L.toArray 146) from rfl, this]
        rcases (by omega : j = 0 ∨ j = 1 ∨ j = 2 ∨ j = 3) with rfl | rfl | rfl | rfl <;> exact hj
      case c1 => intro u hu; simp [slot0L] at hu; rcases hu with rfl | rfl | rfl | rfl <;> rfl
      case c2 => simp only [maxLen]; omega
      case c3 => omega
      case c4 => have := HB.out.size; simp; omega
      case next =>
        intro v' w1 hown hgrow _
        have HO1 : Hid (w1.ownsRow w.heap.size 146 4 v' (k + 1) (slotsL (k + 1))) := hown
        have HB1 : Hid (Below w.heap.size w w1) := (HB.out.alloc HB.out.size _).grown hgrow (by have := HB.out.size; simp; omega) (fun g hg => (World.ownsRow.lt HO.out g hg).1)
        clear hown hgrow
        go_wp2
        go_roundw
        case rel => exact ⟨k + 1, by omega, by go_num, HO1, HB1⟩
        case measure => simp [intOf]; omega
    · have e : k = n := by omega
      have E := Lib.hid e
      clear e
      go_wp2
      go_ret
      have e := E.out
      subst e
      exact ⟨u3, rfl, HO.out, HB.out⟩

end Go.Proofs.YtdlemkmkheokkaaDoor
