/- All twelve errors laid, six of them laid: worlds that meet the condition; what the condition gives a walk. -/
import Derived.Test.YtdlemkmkheokkaaDoorR2
import Derived.Test.YtdlemkmkheokkaaDoorEb
import Derived.Stop.LaidErr
namespace Go.Proofs.YtdlemkmkheokkaaDoor
open Go.ChangeShapes Go.WideShapes Go.RowKit

abbrev sEnd : ByteArray := { data := #[105, 116, 32, 101, 110, 100, 115, 32, 116, 111, 111, 32, 101, 97, 114, 108, 121] }
abbrev sLimit : ByteArray := { data := #[97, 116, 32, 105, 116, 115, 32, 108, 105, 109, 105, 116] }
abbrev sOwn : ByteArray := { data := #[110, 111, 116, 32, 111, 110, 101, 32, 111, 102, 32, 105, 116, 115, 32, 111, 119, 110] }
abbrev sState : ByteArray := { data := #[110, 111, 116, 32, 105, 110, 32, 116, 104, 105, 115, 32, 115, 116, 97, 116, 101] }
abbrev sRight : ByteArray := { data := #[105, 116, 32, 108, 97, 99, 107, 115, 32, 116, 104, 101, 32, 114, 105, 103, 104, 116] }
abbrev sWord : ByteArray := { data := #[110, 111, 32, 115, 117, 99, 104, 32, 119, 111, 114, 100] }
abbrev sNumber : ByteArray := { data := #[110, 111, 32, 115, 117, 99, 104, 32, 110, 117, 109, 98, 101, 114] }
abbrev laid6 {H : Type} : List (String × DataW H) := [("turnkey/api.ErrShape", Rows.laid_turnkey_api_ErrShape), ("turnkey/api.ErrRange", Rows.laid_turnkey_api_ErrRange), ("turnkey/api.ErrMany", Rows.laid_turnkey_api_ErrMany), ("turnkey/api.ErrNone", Rows.laid_turnkey_api_ErrNone), ("turnkey/api.ErrFull", Rows.laid_turnkey_api_ErrFull), ("turnkey/api.ErrRight", Rows.laid_turnkey_api_ErrRight)]
noncomputable def laidWorld6 (os : Os) : World :=
  let w0 := World.holding Tryd.prog os ⟨#[str sShape, str sRange, str sMany, str sNone, str sFull, str sRight], #[], []⟩
  { w0 with heap := lay low 5 5 (lay low 3 4 (lay low 1 3 (lay low 0 2 (lay low 2 1 (lay low 4 0 w0.heap))))) }
theorem laidWorld6_met (os : Os) (args : Array Value) : laidMet Tryd.prog laid6 ((laidWorld6 os).forCall (fun _ _ => 0) ⟨#[], args, []⟩).memory :=
  laidMet_of_run (ps := [.cell 4 0, .cell low 0, .cell 2 0, .cell (low + 1) 0, .cell 0 0, .cell (low + 2) 0, .cell 1 0, .cell (low + 3) 0, .cell 3 0, .cell (low + 4) 0, .cell 5 0, .cell (low + 5) 0]) 8 (by kernel_rfl) (by kernel_rfl) (by kernel_rfl)
abbrev laid12 {H : Type} : List (String × DataW H) := [("turnkey/api.ErrEnd", Rows.laid_turnkey_api_ErrEnd), ("turnkey/api.ErrShape", Rows.laid_turnkey_api_ErrShape), ("turnkey/api.ErrRange", Rows.laid_turnkey_api_ErrRange), ("turnkey/api.ErrMany", Rows.laid_turnkey_api_ErrMany), ("turnkey/api.ErrNone", Rows.laid_turnkey_api_ErrNone), ("turnkey/api.ErrFull", Rows.laid_turnkey_api_ErrFull), ("turnkey/api.ErrLimit", Rows.laid_turnkey_api_ErrLimit), ("turnkey/api.ErrOwn", Rows.laid_turnkey_api_ErrOwn), ("turnkey/api.ErrState", Rows.laid_turnkey_api_ErrState), ("turnkey/api.ErrRight", Rows.laid_turnkey_api_ErrRight), ("turnkey/api.ErrWord", Rows.laid_turnkey_api_ErrWord), ("turnkey/api.ErrNumber", Rows.laid_turnkey_api_ErrNumber)]
noncomputable def laidWorld12 (os : Os) : World :=
  let w0 := World.holding Tryd.prog os ⟨#[str sEnd, str sShape, str sRange, str sMany, str sNone, str sFull, str sLimit, str sOwn, str sState, str sRight, str sWord, str sNumber], #[], []⟩
  { w0 with heap := lay low 11 11 (lay low 10 10 (lay low 5 9 (lay low 9 8 (lay low 8 7 (lay low 7 6 (lay low 3 5 (lay low 1 4 (lay low 0 3 (lay low 2 2 (lay low 4 1 (lay low 6 0 w0.heap))))))))))) }
theorem laidWorld12_met (os : Os) (args : Array Value) : laidMet Tryd.prog laid12 ((laidWorld12 os).forCall (fun _ _ => 0) ⟨#[], args, []⟩).memory :=
  laidMet_of_run (ps := [.cell 6 0, .cell low 0, .cell 4 0, .cell (low + 1) 0, .cell 2 0, .cell (low + 2) 0, .cell 0 0, .cell (low + 3) 0, .cell 1 0, .cell (low + 4) 0, .cell 3 0, .cell (low + 5) 0, .cell 7 0, .cell (low + 6) 0, .cell 8 0, .cell (low + 7) 0, .cell 9 0, .cell (low + 8) 0, .cell 5 0, .cell (low + 9) 0, .cell 10 0, .cell (low + 10) 0, .cell 11 0, .cell (low + 11) 0]) 8 (by kernel_rfl) (by kernel_rfl) (by kernel_rfl)

theorem laid_head {P : Program} {n : String} {d : DataW Unit} {W : World} : ∀ {l : List (String × DataW Unit)}, laidMet P l W → (n, d) ∈ l → ∃ r, laidMet P ((n, d) :: r) W
  | [], _, h => absurd h List.not_mem_nil
  | x :: r, hl, h => by
    rcases List.mem_cons.1 h with rfl | h
    · exact ⟨r, hl⟩
    · exact laid_head hl.tail h

theorem laid_err {P : Program} {n nm : String} {text : List UInt8} {r : List (String × DataW Unit)} {W : World} {g : Nat} {ti tp te ts : TypeId} {ms : Array (String × TypeId)} {f : Field}
    (h : laidMet P ((n, .iface nm (.ptr (.agg [.lit (.string text)]))) :: r) W)
    (hg : P.globalNamed n = some g) (ht : (P.globals[g]?).map (·.type) = some ti) (hi : P.underlying ti = some (.interface ms)) (hrow : ∀ u, P.typeName? 3 u = some nm → u = tp)
    (hp : P.underlying tp = some (.pointer te)) (he : P.underlying te = some (.struct #[f])) (hft : f.type = ts) (hfo : f.offset = 0) (hs : P.underlying ts = some .string) (hc : P.cellsOf te = 1) (hcs : P.cellsOf ts = 1) :
    ∃ (a : Addr) (s : ByteArray), W.cell? ⟨g, 0, none⟩ = some (.iface tp (.pointer (some a))) ∧ W.cell? a = some (.string s) ∧ s.data.toList = text ∧ ∃ c t, W.heap[a.block]? = some (.cells c t (0, 0)) := by
  obtain ⟨ps, ⟨g0, t0, cs0, f0, p0, q0, hg0, ht0, hv0, hd0, _, e0⟩, _, hrows⟩ := h
  obtain rfl := Option.some.inj (hg.symm.trans hg0)
  obtain rfl := Option.some.inj (ht.symm.trans ht0)
  subst e0
  obtain ⟨l0⟩ := cs0
  have ok0 : ∀ u v, l0 = [.iface u v] → Value.okWide P W .any 0 u v := fun u v e => by
    subst e
    exact (hrows g 0 (by simp [MemPlace.row])).2 u v (by simpa using World.var?_cell hg0 hv0 0)
  obtain ⟨a0, s0, rfl, hc0, hs0, hz0, rfl⟩ := errorString_of_trod hi hrow hp he hft hfo hs hc hcs hd0 ok0
  refine ⟨a0, s0, by simpa using World.var?_cell hg0 hv0 0, hc0, hs0, (hrows a0.block a0.off ?_).1⟩
  exact List.mem_append_left _ (List.mem_append_right _ (by simp [MemPlace.row]))
theorem named188 : ∀ u, Tryd.prog.typeName? 3 u = some "*errors.errorString" → u = 188 := fun u hu =>
  typeName_ptr_named (P := Tryd.prog) (nm := "errors.errorString") (tp := 188) (by kernel_rfl) (by kernel_rfl) (by decide) u hu

def errText (g : Nat) : List UInt8 := match g with
  | 0 => [116, 111, 111, 32, 109, 97, 110, 121]
  | 1 => [116, 104, 101, 114, 101, 32, 105, 115, 32, 110, 111, 110, 101]
  | 2 => [97, 32, 110, 117, 109, 98, 101, 114, 32, 111, 117, 116, 32, 111, 102, 32, 105, 116, 115, 32, 114, 97, 110, 103, 101]
  | 3 => [116, 104, 101, 114, 101, 32, 105, 115, 32, 110, 111, 32, 114, 111, 111, 109]
  | 4 => [110, 111, 116, 32, 97, 115, 32, 105, 116, 32, 104, 97, 115, 32, 116, 111, 32, 98, 101]
  | 5 => [105, 116, 32, 108, 97, 99, 107, 115, 32, 116, 104, 101, 32, 114, 105, 103, 104, 116]
  | 6 => [105, 116, 32, 101, 110, 100, 115, 32, 116, 111, 111, 32, 101, 97, 114, 108, 121]
  | 7 => [97, 116, 32, 105, 116, 115, 32, 108, 105, 109, 105, 116]
  | 8 => [110, 111, 116, 32, 111, 110, 101, 32, 111, 102, 32, 105, 116, 115, 32, 111, 119, 110]
  | 9 => [110, 111, 116, 32, 105, 110, 32, 116, 104, 105, 115, 32, 115, 116, 97, 116, 101]
  | 10 => [110, 111, 32, 115, 117, 99, 104, 32, 119, 111, 114, 100]
  | _ => [110, 111, 32, 115, 117, 99, 104, 32, 110, 117, 109, 98, 101, 114]
def ErrAt (W : World) (g : Nat) (a : Addr) : Prop :=
  W.cell? ⟨g, 0, none⟩ = some (.iface 188 (.pointer (some a))) ∧ (∃ s : ByteArray, W.cell? a = some (.string s) ∧ s.data.toList = errText g) ∧ ∃ c t, W.heap[a.block]? = some (.cells c t (0, 0))
theorem laid_at {n : String} {text : List UInt8} {l : List (String × DataW Unit)} {W : World} (g : Nat) (h : laidMet Tryd.prog l W) (hm : (n, .iface "*errors.errorString" (.ptr (.agg [.lit (.string text)]))) ∈ l)
    (hg : Tryd.prog.globalNamed n = some g) (ht : (Tryd.prog.globals[g]?).map (·.type) = some 25) (e : text = errText g) : ∃ a, ErrAt W g a := by
  obtain ⟨r, hr⟩ := laid_head h hm
  obtain ⟨a, s, h1, h2, h3, h4⟩ := laid_err hr hg ht Tryd.underlying25 named188 Tryd.underlying188 Tryd.underlying209 (by kernel_rfl) (by kernel_rfl) Tryd.underlying9 (by kernel_rfl) (by kernel_rfl)
  exact ⟨a, h1, ⟨s, h2, h3.trans e⟩, h4⟩
theorem errs_of_laid {W : World} (h : laidMet Tryd.prog laid12 W) : ∃ a, Errs W a := by
  obtain ⟨a0, h0⟩ := laid_at (n := "turnkey/api.ErrMany") 0 h (by simp [laid12, Rows.laid_turnkey_api_ErrMany]; rfl) (by kernel_rfl) (by kernel_rfl) rfl
  obtain ⟨a1, h1⟩ := laid_at (n := "turnkey/api.ErrNone") 1 h (by simp [laid12, Rows.laid_turnkey_api_ErrNone]; rfl) (by kernel_rfl) (by kernel_rfl) rfl
  obtain ⟨a2, h2⟩ := laid_at (n := "turnkey/api.ErrRange") 2 h (by simp [laid12, Rows.laid_turnkey_api_ErrRange]; rfl) (by kernel_rfl) (by kernel_rfl) rfl
  obtain ⟨a3, h3⟩ := laid_at (n := "turnkey/api.ErrFull") 3 h (by simp [laid12, Rows.laid_turnkey_api_ErrFull]; rfl) (by kernel_rfl) (by kernel_rfl) rfl
  obtain ⟨a4, h4⟩ := laid_at (n := "turnkey/api.ErrShape") 4 h (by simp [laid12, Rows.laid_turnkey_api_ErrShape]; rfl) (by kernel_rfl) (by kernel_rfl) rfl
  obtain ⟨a5, h5⟩ := laid_at (n := "turnkey/api.ErrRight") 5 h (by simp [laid12, Rows.laid_turnkey_api_ErrRight]; rfl) (by kernel_rfl) (by kernel_rfl) rfl
  obtain ⟨a6, h6⟩ := laid_at (n := "turnkey/api.ErrEnd") 6 h (by simp [laid12, Rows.laid_turnkey_api_ErrEnd]; rfl) (by kernel_rfl) (by kernel_rfl) rfl
  obtain ⟨a7, h7⟩ := laid_at (n := "turnkey/api.ErrLimit") 7 h (by simp [laid12, Rows.laid_turnkey_api_ErrLimit]; rfl) (by kernel_rfl) (by kernel_rfl) rfl
  obtain ⟨a8, h8⟩ := laid_at (n := "turnkey/api.ErrOwn") 8 h (by simp [laid12, Rows.laid_turnkey_api_ErrOwn]; rfl) (by kernel_rfl) (by kernel_rfl) rfl
  obtain ⟨a9, h9⟩ := laid_at (n := "turnkey/api.ErrState") 9 h (by simp [laid12, Rows.laid_turnkey_api_ErrState]; rfl) (by kernel_rfl) (by kernel_rfl) rfl
  obtain ⟨a10, h10⟩ := laid_at (n := "turnkey/api.ErrWord") 10 h (by simp [laid12, Rows.laid_turnkey_api_ErrWord]; rfl) (by kernel_rfl) (by kernel_rfl) rfl
  obtain ⟨a11, h11⟩ := laid_at (n := "turnkey/api.ErrNumber") 11 h (by simp [laid12, Rows.laid_turnkey_api_ErrNumber]; rfl) (by kernel_rfl) (by kernel_rfl) rfl
  have hne : ∀ {g g' : Nat} {a a' : Addr}, ErrAt W g a → ErrAt W g' a' → errText g ≠ errText g' → a ≠ a' := by
    rintro g g' a a' ⟨_, ⟨s, h1, h2⟩, _⟩ ⟨_, ⟨s', h1', h2'⟩, _⟩ hx rfl
    rw [h1] at h1'
    simp only [Option.some.injEq, Value.string.injEq] at h1'
    subst h1'
    exact hx (h2.symm.trans h2')
  have hall : ∀ g, g < 12 → ErrAt W g ([a0, a1, a2, a3, a4, a5, a6, a7, a8, a9, a10, a11].getD g a0) := fun g hg => by
    rcases (by omega : g = 0 ∨ g = 1 ∨ g = 2 ∨ g = 3 ∨ g = 4 ∨ g = 5 ∨ g = 6 ∨ g = 7 ∨ g = 8 ∨ g = 9 ∨ g = 10 ∨ g = 11) with rfl | rfl | rfl | rfl | rfl | rfl | rfl | rfl | rfl | rfl | rfl | rfl
    · exact h0
    · exact h1
    · exact h2
    · exact h3
    · exact h4
    · exact h5
    · exact h6
    · exact h7
    · exact h8
    · exact h9
    · exact h10
    · exact h11
  exact ⟨fun g => [a0, a1, a2, a3, a4, a5, a6, a7, a8, a9, a10, a11].getD g a0, fun g hg => (hall g hg).1, hne h6 h2 (by decide), hne h4 h2 (by decide), fun g hg => (hall g hg).2.2⟩
end Go.Proofs.YtdlemkmkheokkaaDoor
