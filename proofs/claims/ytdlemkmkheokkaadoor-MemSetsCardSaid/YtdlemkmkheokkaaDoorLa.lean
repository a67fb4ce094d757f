/- turnkeylaw9.PathRights answers true for every input: the walk. -/
import Derived.Test.YtdlemkmkheokkaaDoorXg
import Derived.Test.YtdlemkmkheokkaaDoorMf
namespace Go.Proofs.YtdlemkmkheokkaaDoor
open Go.RowKit

/-- the rights of the key that node i is made with -/
def rr3 (a : Nat) (r : Int) : Nat → Int := fun i => if i = a then r else 0
def sc3 (a : Nat) (r : Int) (i : Nat) : SC :=
  ⟨4, acPre i, fun j => if j < i then nodeKeys 1 (chainK (rr3 a r) j) else fun _ => K.zero, 1, acPre 1, up (fun _ _ => 0) 0 (pageWords 1 fun _ => 4)⟩
/-- the key at the loop's head -/
def head3 : Nat → K
  | 0 => ⟨3, 0, 0, 0, 0⟩
  | i + 1 => ⟨2, i, 0, 0, i + 1⟩

theorem sc3_zero (a : Nat) (r : Int) : { SC.new 4 1 with pa := AC.zero.take 0, pw := up (SC.new 4 1).pw 0 (pageWords 1 fun _ => 4) } = sc3 a r 0 := by
  have h1 : AC.zero.take 0 = acPre 1 := by rw [← acPre_zero, acPre_take]
  have h2 : AC.zero = acPre 0 := acPre_zero.symm
  simp only [SC.new, sc3, h1, SC.mk.injEq, true_and, and_true]
  refine ⟨h2, ?_⟩
  funext j s
  simp
theorem sc3_next (a : Nat) (r : Int) (i : Nat) : { sc3 a r i with na := (acPre i).take i, nk := up (sc3 a r i).nk i (nodeKeys 1 (chainK (rr3 a r) i)) } = sc3 a r (i + 1) := by
  simp only [sc3, acPre_take, SC.mk.injEq, true_and, and_true]
  funext j s
  unfold up
  by_cases h : j = i
  · subst h; simp
  · rw [if_neg h]
    dsimp only
    by_cases h2 : j < i
    · rw [if_pos h2, if_pos (by omega)]
    · rw [if_neg h2, if_neg (by omega)]
theorem roU3 (a : Nat) (r : Int) : ∀ d, roU (rr3 a r) d = (decide (a ≤ d) && weakB r)
  | 0 => by
    by_cases h : a = 0
    · subst h; simp [roU, rr3]
    · simp [roU, rr3, weak_zero, show ¬ 0 = a by omega, h]
  | d + 1 => by
    rw [roU, roU3 a r d]
    by_cases h : a = d + 1
    · subst h; simp [rr3]
    · have e : rr3 a r (d + 1) = 0 := by simp [rr3, show ¬ d + 1 = a by omega]
      rw [e, weak_zero, Bool.false_or]
      by_cases h2 : a ≤ d
      · simp [h2, show a ≤ d + 1 by omega]
      · simp [h2, show ¬ a ≤ d + 1 by omega]
theorem way3 (a : Nat) (r : Int) (d : Nat) (hd : d ≤ 3) : (wayF (sc3 a r (d + 1)) ⟨2, d, 0, 0, d + 1⟩ 5).same ⟨0, 5, decide (a ≤ d) && weakB r, 0, []⟩ := by
  have h := chain_way (sc3 a r (d + 1)) (rr3 a r) d hd (show d < 4 by omega) (show 0 < 1 by omega)
    (fun i hi => ⟨acPre_th (d + 1) i (by omega), rfl⟩) ⟨acPre_th 1 0 (by omega), rfl⟩ (fun i hi => by show (if i < d + 1 then nodeKeys 1 (chainK (rr3 a r) i) else fun _ => K.zero) 0 = _; rw [if_pos (by omega)]; simp [nodeKeys])
    d (Nat.le_refl _) 5 false 5 0 (by omega) (by omega)
  obtain ⟨h1, h2, h3, h4⟩ := h
  refine ⟨h1, h2, ?_, h4⟩
  show (walkF _ 5 _ 5 false 5).ro = _
  rw [h3, weak_zero, roU3]
  rfl
theorem chain_ok (a : Nat) (r : Int) (h0 : 0 ≤ r) (h7 : r ≤ 7) (i : Nat) (hi : i ≤ 3) : okK (chainK (rr3 a r) i) := by
  have hr : 0 ≤ rr3 a r i ∧ rr3 a r i ≤ 7 := by unfold rr3; split <;> omega
  cases i with
  | zero => exact .inr (.inr (.inr ⟨rfl, by simp [chainK], by simp [chainK], by simp [chainK], by simp [chainK], hr.1, hr.2, rfl⟩))
  | succ i => exact .inr (.inr (.inl ⟨rfl, by simp [chainK], by simp [chainK]; omega, by simp [chainK], by simp [chainK], hr.1, hr.2, by simp [chainK]; omega, by simp [chainK]; omega⟩))

theorem Row.one (w : World) (v : Value) (t : TypeId) : Row (w.alloc (.cells #[v] t)) w.heap.size 1 (fun _ => v) := by
  refine Row.new w #[v] t 1 (fun _ => v) rfl fun i hi => ?_
  obtain rfl : i = 0 := by omega
  rfl

/-- what a law keeps: its store, a key's box, what was there ahead of it -/
structure LwI (w0 : World) (S : SA) (D : SC) (bk : Nat) (k : K) (W : World) : Prop where
  sto : Sto W S D
  rk : Row W bk 5 k.cell
  bel : Below w0.heap.size w0 W
  dk : ¬ S.has bk
  dB : ∀ x, S.has x → w0.heap.size ≤ x
  bB : w0.heap.size ≤ bk
theorem LwI.step {w0 : World} {S : SA} {D D' : SC} {bk : Nat} {k : K} {W W' : World} (h : LwI w0 S D bk k W) {X : Nat → Prop} (o : Only X W W') (hX : ∀ x, X x → S.has x) (hs : Sto W' S D') : LwI w0 S D' bk k W' :=
  ⟨hs, h.rk.only o (fun e => h.dk (hX _ e)), below_only h.bel h.bel.size o (fun i _ e => h.dB i (hX i e)), h.dk, h.dB, h.bB⟩
theorem LwI.below {w0 : World} {S : SA} {D : SC} {bk : Nat} {k : K} {W W' : World} (h : LwI w0 S D bk k W) (b : Below W.heap.size W W') : LwI w0 S D bk k W' :=
  h.step (Only.of_below (fun _ => False) b) (fun _ h => h.elim) (h.sto.below b)
theorem LwI.box {w0 : World} {S : SA} {D : SC} {bk : Nat} {k : K} {W : World} (h : LwI w0 S D bk k W) (k' : K) :
    LwI w0 S D bk k' (((((W.setCell ⟨bk, 0, none⟩ (k'.cell 0)).setCell ⟨bk, 1, none⟩ (k'.cell 1)).setCell ⟨bk, 2, none⟩ (k'.cell 2)).setCell ⟨bk, 3, none⟩ (k'.cell 3)).setCell ⟨bk, 4, none⟩ (k'.cell 4)) := by
  have o := key_only' (X := fun x => x = bk) (b := bk) (Only.refl _ W) (.inl rfl) (k'.cell 0) (k'.cell 1) (k'.cell 2) (k'.cell 3) (k'.cell 4)
  exact ⟨h.sto.only o (fun x hx e => h.dk (e ▸ hx)), box_set h.rk, below_only h.bel h.bel.size o (fun i _ e => by have := h.bB; omega), h.dk, h.dB, h.bB⟩

theorem LwI.rights {w0 : World} {S : SA} {D : SC} {bk : Nat} {k : K} {W : World} (h : LwI w0 S D bk k W) (r : Int) : LwI w0 S D bk { k with rights := r } (W.setCell ⟨bk, 3, none⟩ (.int .i64 r)) := by
  have o : Only (fun x => x = bk) W (W.setCell ⟨bk, 3, none⟩ (.int .i64 r)) := (Only.refl _ _).setCell ⟨bk, 3, none⟩ _ (.inl rfl)
  refine ⟨h.sto.only o (fun x hx e => h.dk (e ▸ hx)), (h.rk.set 3 _).congr fun i hi => ?_, below_only h.bel h.bel.size o (fun i _ e => by have := h.bB; omega), h.dk, h.dB, h.bB⟩
  rcases (by omega : i = 0 ∨ i = 1 ∨ i = 2 ∨ i = 3 ∨ i = 4) with rfl | rfl | rfl | rfl | rfl <;> rfl

theorem head3_set (a : Nat) (r : Int) : ∀ n, { head3 n with rights := rr3 a r n } = chainK (rr3 a r) n
  | 0 => rfl
  | _ + 1 => rfl
theorem head3_same (a : Nat) (r : Int) (n : Nat) (h : n ≠ a) : head3 n = chainK (rr3 a r) n := by
  rw [← head3_set a r n]
  have : rr3 a r n = 0 := by simp [rr3, h]
  rw [this]
  cases n <;> rfl

/-- Make, with a key whose box has just been laid -/
theorem nmake_box {w0 : World} {S : SA} {D : SC} {bk : Nat} {k0 k : K} {W : World} (h : LwI w0 S D bk k0 W) (i : Nat) (hi : i < D.nc) (hold : ∀ j, j < i → D.na.th j = true) (hth : D.na.th i = false) (hgo : D.na.go i = false) (hk : okK k)
    (V : World) (e : V.heap = (W.alloc (.cells #[.int .i64 k.kind, .int .i64 k.id, .int .i64 k.ver, .int .i64 k.rights, .int .u32 k.data] 36)).heap) :
    Calls Tryd.prog 21 #[.pointer (some ⟨S.n.b, 0, none⟩), .slice (some ⟨W.heap.size, 0, none⟩) 1 1] V (MadeN V S.n D.nc D.na D.nk i 1 k) := by
  have hs := (h.sto.below ((Below.refl _ W).alloc (Nat.le_refl _) (.cells #[.int .i64 k.kind, .int .i64 k.id, .int .i64 k.ver, .int .i64 k.rights, .int .u32 k.data] 36))).same e
  have hl := h.sto.lt S.n.l (.inr (.inl (NA.hl _)))
  exact nmake1 S.n D.nc D.na D.nk i W.heap.size k V hs.no (by have := h.sto.n256; omega) hi hold hth hgo hk ((k.box W 36).of_block (by rw [e])) (by omega)

theorem LwI.make {w0 : World} {S : SA} {D : SC} {bk : Nat} {k0 k : K} {W : World} (h : LwI w0 S D bk k0 W) {i m : Nat} {V w5 : World} {o : Obj} (e : V = (W.alloc o).drew)
    (hno : No w5 S.n D.nc (D.na.take i) (up D.nk i (nodeKeys m k))) (ho : Only (fun x => x = S.n.l ∨ x = S.n.k) V w5) : LwI w0 S { D with na := D.na.take i, nk := up D.nk i (nodeKeys m k) } bk k0 w5 := by
  subst e
  have h1 : LwI w0 S D bk k0 (W.alloc o).drew := h.below (((Below.refl _ W).alloc (Nat.le_refl _) o).drew)
  have hX : ∀ x, (x = S.n.l ∨ x = S.n.k) → S.n.has x := by
    rintro x (rfl | rfl)
    · exact NA.hl _
    · exact NA.hk _
  exact h1.step ho (fun x hx => .inr (.inl (hX x hx))) (h1.sto.setNo ho hX hno)

set_option maxRecDepth 100000 in
set_option maxHeartbeats 4000000 in
theorem pathRights_walk (deep att rights : Int) (w : World) : Calls Tryd.prog 3 #[.int .i64 deep, .int .i64 att, .int .i64 rights] w (TrueBelow w) := by
  obtain ⟨d, hd, hd3⟩ : ∃ d : Nat, bits .and .i64 deep 3 = (d : Int) ∧ d ≤ 3 := ⟨(deep % 4).toNat, by rw [and3]; omega, by omega⟩
  obtain ⟨a, ha, ha3⟩ : ∃ a : Nat, bits .and .i64 att 3 = (a : Int) ∧ a ≤ 3 := ⟨(att % 4).toNat, by rw [and3]; omega, by omega⟩
  obtain ⟨r, hr, hr0, hr7⟩ : ∃ r : Int, bits .and .i64 rights 7 = r ∧ 0 ≤ r ∧ r ≤ 7 := ⟨rights % 8, by rw [and7], by omega, by omega⟩
  have hwk : weakB r = (bits .and .i64 rights 5 != 0) := by rw [← hr, and7, weak_mod8]; rfl
  have HWK := Lib.hid hwk
  clear hwk
  have F9 := Lib.hid (fun W => first9 W)
  have SN := Lib.hid (show ∀ W, Calls Tryd.prog 18 #[.int .i64 4, .int .i64 1] W (NewSto W 4 1) from fun W => store_new 4 1 W (by omega) (by omega) (by omega) (by omega))
  go_enter Tryd.func3, Tryd.ntmps3
  go_wp2_with (fail)
  go_at_call 17
  refine (F9.out _).mono ?_
  rintro e w1 ⟨rfl, hb1⟩
  have HB1 := Lib.hid hb1
  clear hb1
  go_wp2_with (fail)
  go_at_call 18
  refine (SN.out _).mono ?_
  rintro e w2 ⟨S, rfl, hs, hx, hb2⟩
  have HS := Lib.hid hs
  have HX := Lib.hid (show ∀ x, S.has x → w.heap.size ≤ x from fun x h => Nat.le_trans HB1.out.size (hx x h))
  have HB2 := Lib.hid (HB1.out.trans (hb2.mono HB1.out.size))
  have q1 := hs.p1
  have lq := hs.lt S.s (.inl rfl)
  clear hs hx hb2 HB1
  go_wp2_with (fail)
  go_at_call 19
  have hsa : Sto (w2.alloc (.cells #[.int .u32 4] 34)) S (SC.new 4 1) := HS.out.below ((Below.refl _ _).alloc (Nat.le_refl _) _)
  have hro := Row.one w2 (.int .u32 4) 34
  have hne : (⟨w2.heap.size, 0, none⟩ : Addr).block ≠ S.p.l := by
    have := HS.out.lt S.p.l (.inr (.inr (NA.hl _)))
    show w2.heap.size ≠ S.p.l
    omega
  have hsp : ∀ j, j < 1 → (w2.alloc (.cells #[.int .u32 4] 34)).cell? ((⟨w2.heap.size, 0, none⟩ : Addr).add j) = some (.int .u32 4) := by
    intro j hj
    obtain rfl : j = 0 := by omega
    exact hro.cell 0 (by omega)
  refine (pmake S.p 1 AC.zero (SC.new 4 1).pw 0 1 1 ⟨w2.heap.size, 0, none⟩ (fun _ => 4) _ hsa.pg (by omega) (by omega) (fun j h => absurd h (Nat.not_lt_zero j)) rfl rfl (by omega) hne hro.lt hsp).mono ?_
  rintro e w3 ⟨rfl, hpg, ho⟩
  have hX : ∀ x, (x = S.p.l ∨ x = S.p.k) → S.p.has x := by
    rintro x (rfl | rfl)
    · exact NA.hl _
    · exact NA.hk _
  have hs3 := hsa.setPg ho hX hpg
  rw [sc3_zero a r] at hs3
  have HB3 := Lib.hid (below_only (HB2.out.alloc HB2.out.size _) (Nat.le_trans HB2.out.size (by simp)) ho (fun i _ e => HX.out i (.inr (.inr (hX i e)))))
  have HS3 := Lib.hid hs3
  have PK := Lib.hid (show Calls Tryd.prog 20 #[.pointer (some ⟨S.s, 0, none⟩), .int .i64 0] w3 (KeyBelow w3 ⟨3, 0, 0, 0, 0⟩) from page_key S (sc3 a r 0) 0 w3 hs3 (by show 0 < 1; omega) (acPre_th 1 0 (by omega)))
  clear hsa hro hpg ho hX hs3 HS HB2 hne hsp q1 lq
  go_wp2_with (fail)
  go_at_call 20
  refine (PK.out).mono ?_
  rintro e w4 ⟨rfl, hb4⟩
  have I0 : Hid (LwI w S (sc3 a r 0) w4.heap.size (head3 0) (w4.alloc (.cells #[.int .i64 3, .int .i64 0, .int .i64 0, .int .i64 0, .int .u32 0] 36))) := by
    have hb5 : Below w3.heap.size w3 (w4.alloc (.cells #[.int .i64 3, .int .i64 0, .int .i64 0, .int .i64 0, .int .u32 0] 36)) := hb4.alloc hb4.size _
    refine ⟨HS3.out.below hb5, (head3 0).box w4 36, HB3.out.trans (hb5.mono HB3.out.size), fun h => ?_, HX.out, Nat.le_trans HB3.out.size hb4.size⟩
    have := HS3.out.lt _ h
    have := hb4.size
    omega
  have L4 := Lib.hid (Nat.le_trans HB3.out.size hb4.size)
  clear hb4 PK
  go_wp2
  go_loopw [11, 12] (fun t i wr => ∃ n : Nat, n ≤ d + 1 ∧ i = .int .i64 n ∧ t = .bool (decide (a < n) && weakB r) ∧ Hid (LwI w S (sc3 a r n) w4.heap.size (head3 n) wr)) (fun _ i _ => d + 1 - (intOf i).toNat)
  case atStart => exact ⟨0, by omega, rfl, by simp, I0⟩
  case round =>
    clear I0
    obtain ⟨n, hn, rfl, rfl, I⟩ := hrel
    by_cases hnd : n ≤ d
    · have hnd' : (n : Int) ≤ (d : Int) := by omega
      by_cases hna : n = a
      · subst hna
        obtain ⟨c0, c1, c2, c3, c4⟩ := K.facts I.out.rk
        have f3 := I.out.rk.frozen 3
        go_wp2
        obtain ⟨wx, hwx⟩ : ∃ wx, wx = wr.setCell ⟨w4.heap.size, 3, none⟩ (.int .i64 r) := ⟨_, rfl⟩
        rw [← hwx]
        have J : Hid (LwI w S (sc3 n r n) w4.heap.size (chainK (rr3 n r) n) wx) := by
          rw [hwx, ← head3_set n r n]
          have := I.out.rights r
          rwa [show rr3 n r n = r by simp [rr3]]
        obtain ⟨kk, hkk⟩ : ∃ kk, kk = chainK (rr3 n r) n := ⟨_, rfl⟩
        have HKK := Lib.hid hkk
        rw [← hkk] at J
        have hok : okK kk := by rw [hkk]; exact chain_ok n r hr0 hr7 n (by omega)
        have NMK := Lib.hid (nmake_box J.out n (show n < 4 by omega) (fun j hj => acPre_th n j hj) (acPre_not n n (Nat.le_refl _)) rfl hok ((wx.alloc (.cells #[.int .i64 kk.kind, .int .i64 kk.id, .int .i64 kk.ver, .int .i64 kk.rights, .int .u32 kk.data] 36)).drew) rfl)
        obtain ⟨e0, e1, e2, e3, e4⟩ := K.facts J.out.rk
        have x0 := J.out.sto.p0
        have lx := J.out.rk.lt
        have lx2 := J.out.sto.lt S.s (.inl rfl)
        clear I hkk hok c0 c1 c2 c3 c4 f3 hwx
        go_region_held3 (fun W => W.cell? ⟨S.s, 0, none⟩ = some (.pointer (some ⟨S.n.b, 0, none⟩)) ∧ W.cell? ⟨w4.heap.size, 0, none⟩ = some (.int .i64 kk.kind) ∧ W.cell? ⟨w4.heap.size, 1, none⟩ = some (.int .i64 kk.id) ∧ W.cell? ⟨w4.heap.size, 2, none⟩ = some (.int .i64 kk.ver) ∧ W.cell? ⟨w4.heap.size, 3, none⟩ = some (.int .i64 kk.rights) ∧ W.cell? ⟨w4.heap.size, 4, none⟩ = some (.int .u32 kk.data))
          (first | exact ⟨z0, z1, z2, z3, z4, z5⟩ | go_keep)
          ((go_at_call 21; refine (NMK.out).mono ?_; rintro e w5 ⟨rfl, hno, ho⟩; have J5 := Lib.hid (J.out.make rfl hno ho); have z0 := J5.out.sto.p0; obtain ⟨z1, z2, z3, z4, z5⟩ := K.facts J5.out.rk; clear hno ho))
        have J6 : Hid (LwI w S (sc3 n r (n + 1)) w4.heap.size kk w5) := by
          rw [← sc3_next n r n, ← HKK.out]
          exact J5.out
        have NK := Lib.hid (show Calls Tryd.prog 22 #[.pointer (some ⟨S.s, 0, none⟩), .int .i64 n, .int .i64 ((n : Int) + 1)] w5 (KeyBelow w5 ⟨2, n, 0, 0, (n : Int) + 1⟩) from node_key S (sc3 n r (n + 1)) n ((n : Int) + 1) w5 J6.out.sto (show n < 4 by omega) (acPre_th (n + 1) n (by omega)) (by omega) (by omega))
        clear e0 e1 e2 e3 e4 x0 lx lx2 z0 z1 z2 z3 z4 z5
        go_wp2_with (fail)
        go_at_call 22
        refine (NK.out).mono ?_
        rintro e w6 ⟨rfl, hb6⟩
        have J7 := Lib.hid (J6.out.below hb6)
        obtain ⟨e0, e1, e2, e3, e4⟩ := K.facts J7.out.rk
        have f0 := J7.out.rk.frozen 0
        have f1 := J7.out.rk.frozen 1
        have f2 := J7.out.rk.frozen 2
        have f3 := J7.out.rk.frozen 3
        have f4 := J7.out.rk.frozen 4
        clear hb6
        go_wp2
        go_roundw
        case rel => exact ⟨n + 1, by omega, by go_num, by rw [HWK.out]; simp, J7.out.box (head3 (n + 1))⟩
        case measure => simp [intOf]; omega
      · have hna' : ((n : Int) == (a : Int)) = false := by simp; omega
        have J : Hid (LwI w S (sc3 a r n) w4.heap.size (chainK (rr3 a r) n) wr) := by
          rw [← head3_same a r n hna]
          exact I
        go_wp2
        obtain ⟨wx, rfl⟩ : ∃ wx : World, wx = wr := ⟨_, rfl⟩
        obtain ⟨kk, hkk⟩ : ∃ kk, kk = chainK (rr3 a r) n := ⟨_, rfl⟩
        have HKK := Lib.hid hkk
        rw [← hkk] at J
        have hok : okK kk := by rw [hkk]; exact chain_ok a r hr0 hr7 n (by omega)
        have NMK := Lib.hid (nmake_box J.out n (show n < 4 by omega) (fun j hj => acPre_th n j hj) (acPre_not n n (Nat.le_refl _)) rfl hok ((wx.alloc (.cells #[.int .i64 kk.kind, .int .i64 kk.id, .int .i64 kk.ver, .int .i64 kk.rights, .int .u32 kk.data] 36)).drew) rfl)
        obtain ⟨e0, e1, e2, e3, e4⟩ := K.facts J.out.rk
        have x0 := J.out.sto.p0
        have lx := J.out.rk.lt
        have lx2 := J.out.sto.lt S.s (.inl rfl)
        clear I hkk hok hna'
        go_region_held3 (fun W => W.cell? ⟨S.s, 0, none⟩ = some (.pointer (some ⟨S.n.b, 0, none⟩)) ∧ W.cell? ⟨w4.heap.size, 0, none⟩ = some (.int .i64 kk.kind) ∧ W.cell? ⟨w4.heap.size, 1, none⟩ = some (.int .i64 kk.id) ∧ W.cell? ⟨w4.heap.size, 2, none⟩ = some (.int .i64 kk.ver) ∧ W.cell? ⟨w4.heap.size, 3, none⟩ = some (.int .i64 kk.rights) ∧ W.cell? ⟨w4.heap.size, 4, none⟩ = some (.int .u32 kk.data))
          (first | exact ⟨z0, z1, z2, z3, z4, z5⟩ | go_keep)
          ((go_at_call 21; refine (NMK.out).mono ?_; rintro e w5 ⟨rfl, hno, ho⟩; have J5 := Lib.hid (J.out.make rfl hno ho); have z0 := J5.out.sto.p0; obtain ⟨z1, z2, z3, z4, z5⟩ := K.facts J5.out.rk; clear hno ho))
        have J6 : Hid (LwI w S (sc3 a r (n + 1)) w4.heap.size kk w5) := by
          rw [← sc3_next a r n, ← HKK.out]
          exact J5.out
        have NK := Lib.hid (show Calls Tryd.prog 22 #[.pointer (some ⟨S.s, 0, none⟩), .int .i64 n, .int .i64 ((n : Int) + 1)] w5 (KeyBelow w5 ⟨2, n, 0, 0, (n : Int) + 1⟩) from node_key S (sc3 a r (n + 1)) n ((n : Int) + 1) w5 J6.out.sto (show n < 4 by omega) (acPre_th (n + 1) n (by omega)) (by omega) (by omega))
        clear e0 e1 e2 e3 e4 x0 lx lx2 z0 z1 z2 z3 z4 z5
        go_wp2_with (fail)
        go_at_call 22
        refine (NK.out).mono ?_
        rintro e w6 ⟨rfl, hb6⟩
        have J7 := Lib.hid (J6.out.below hb6)
        obtain ⟨e0, e1, e2, e3, e4⟩ := K.facts J7.out.rk
        have f0 := J7.out.rk.frozen 0
        have f1 := J7.out.rk.frozen 1
        have f2 := J7.out.rk.frozen 2
        have f3 := J7.out.rk.frozen 3
        have f4 := J7.out.rk.frozen 4
        clear hb6
        go_wp2
        go_roundw
        case rel => exact ⟨n + 1, by omega, by go_num, by rw [show decide (a < n + 1) = decide (a < n) from by simp; omega], J7.out.box (head3 (n + 1))⟩
        case measure => simp [intOf]; omega
    · obtain rfl : n = d + 1 := by omega
      obtain ⟨c0, c1, c2, c3, c4⟩ := K.facts I.out.rk
      have hnd : ¬ ((((d + 1 : Nat) : Int)) ≤ (d : Int)) := by omega
      obtain ⟨P, hP⟩ : ∃ P, P = wayF (sc3 a r (d + 1)) ⟨2, d, 0, 0, d + 1⟩ 5 := ⟨_, rfl⟩
      obtain ⟨s1, s2, s3, s4⟩ : P.same ⟨0, 5, decide (a ≤ d) && weakB r, 0, []⟩ := by rw [hP]; exact way3 a r d hd3
      have WY := Lib.hid (show Calls Tryd.prog 23 #[.pointer (some ⟨S.s, 0, none⟩), (⟨2, d, 0, 0, d + 1⟩ : K).v, .int .u32 5] wr (WayP wr P) from hP ▸ way_any S (sc3 a r (d + 1)) ⟨2, d, 0, 0, d + 1⟩ 5 wr I.out.sto (by omega) (by omega))
      clear hP
      go_wp2_with (fail)
      go_at_call 23
      refine (WY.out).mono ?_
      rintro e w5 ⟨rfl, hb5⟩
      have I5 := Lib.hid (I.out.below hb5)
      rw [s1, s2, s3, s4]
      have e9 : decide (a < d + 1) = decide (a ≤ d) := by simp; omega
      rw [e9]
      obtain ⟨V, hV⟩ : ∃ V, V = (decide (a ≤ d) && weakB r) := ⟨_, rfl⟩
      rw [← hV]
      have B5 := Lib.hid I5.out.bel
      clear hb5 e9 s1 s2 s3 s4 hV WY c0 c1 c2 c3 c4
      go_wp2
      go_ret
      exact ⟨rfl, B5.out.alloc B5.out.size _⟩

end Go.Proofs.YtdlemkmkheokkaaDoor
