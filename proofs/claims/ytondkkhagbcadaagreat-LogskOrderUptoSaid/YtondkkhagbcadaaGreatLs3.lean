/- Contracts of package logsk: Config, Set, Quantile; the document's Quantile. -/
import Derived.Test.YtondkkhagbcadaaGreatProg
import Derived.Test.YtondkkhagbcadaaGreatLs2
import Derived.Test.YtondkkhagbcadaaGreatPlaces
namespace Go.Proofs.YtondkkhagbcadaaGreat
open Go.RowKit

theorem conf_same (u v z m : Int) (w : World) : (binOp .neq 74 (.agg #[.int .u64 u, .int .u64 v, .int .i64 z, .int .i64 m]) (.agg #[.int .u64 u, .int .u64 v, .int .i64 z, .int .i64 m])).run Tryz.prog w = .ok (.bool false) w := by
  go_simp
theorem conf_diff (u v z m u' v' : Int) (w : World) (h : ¬ (u = u' ∧ v = v')) : (binOp .neq 74 (.agg #[.int .u64 u, .int .u64 v, .int .i64 z, .int .i64 m]) (.agg #[.int .u64 u', .int .u64 v', .int .i64 z, .int .i64 m])).run Tryz.prog w = .ok (.bool true) w := by
  go_simp
  exact fun e1 e2 => h ⟨e1, e2⟩
theorem At.set4 {w : World} {b : Nat} {T : TypeId} {u0 u1 u2 u3 : Value} (h : At w b #[u0, u1, u2, u3] T) (v0 v1 v2 v3 : Value) : At ((((w.setCell ⟨b, 0, none⟩ v0).setCell ⟨b, 1, none⟩ v1).setCell ⟨b, 2, none⟩ v2).setCell ⟨b, 3, none⟩ v3) b #[v0, v1, v2, v3] T :=
  (((h.set_any 0 v0 rfl).set_any 1 v1 rfl).set_any 2 v2 rfl).set_any 3 v3 rfl
theorem lsconf_nil (w : World) : Calls Tryz.prog 31 #[.pointer none] w fun e w' => e = .returned (.agg #[.int .u64 0, .int .u64 0, .int .i64 0, .int .i64 0]) ∧ Below w.heap.size w w' := by
  have s1 := At.new w #[.int .u64 0, .int .u64 0, .int .i64 0, .int .i64 0] 74
  go_enter Tryz.func31, Tryz.ntmps31
  go_wp2
  have d2 := (s1.set4 (.int .u64 0) (.int .u64 0) (.int .i64 0) (.int .i64 0)).four
  exact bodyPost_ret (v := .agg #[.int .u64 0, .int .u64 0, .int .i64 0, .int .i64 0]) (by simp only [results, Tryz.f31]; simp [go_sem, d2]) rfl ⟨rfl, (by repeat (first | with_reducible assumption | with_reducible exact Below.refl _ _ | with_reducible refine Below.drew ?_ | with_reducible refine Below.drewN ?_ _ | with_reducible refine Below.setCell ?_ (by first | omega | (simp; done) | (simp; omega)) _ | with_reducible refine Below.alloc ?_ (by first | omega | (simp; done) | (simp; omega) | (simp [World.setCell]; omega)) _))⟩
theorem lsconf_at (b : Nat) (x0 x5 x6 : Value) (u v z m : Int) (w : World) (h : At w b #[x0, .int .u64 u, .int .u64 v, .int .i64 z, .int .i64 m, x5, x6] 86) :
    Calls Tryz.prog 31 #[.pointer (some ⟨b, 0, none⟩)] w fun e w' => e = .returned (.agg #[.int .u64 u, .int .u64 v, .int .i64 z, .int .i64 m]) ∧ Below w.heap.size w w' := by
  have f1 := (h.below ((Below.refl _ _).alloc (Nat.le_refl _) (.cells #[.int .u64 0, .int .u64 0, .int .i64 0, .int .i64 0] 74))).seven
  have s1 := At.new w #[.int .u64 0, .int .u64 0, .int .i64 0, .int .i64 0] 74
  clear h
  go_enter Tryz.func31, Tryz.ntmps31
  go_wp2
  have d2 := (s1.set4 (.int .u64 u) (.int .u64 v) (.int .i64 z) (.int .i64 m)).four
  exact bodyPost_ret (v := .agg #[.int .u64 u, .int .u64 v, .int .i64 z, .int .i64 m]) (by simp only [results, Tryz.f31]; simp [go_sem, d2]) rfl ⟨rfl, (by repeat (first | with_reducible assumption | with_reducible exact Below.refl _ _ | with_reducible refine Below.drew ?_ | with_reducible refine Below.drewN ?_ _ | with_reducible refine Below.setCell ?_ (by first | omega | (simp; done) | (simp; omega)) _ | with_reducible refine Below.alloc ?_ (by first | omega | (simp; done) | (simp; omega) | (simp [World.setCell]; omega)) _))⟩
/-! ## Set. -/
theorem lsset_nil (lo hi : Int) (w : World) : Calls Tryz.prog 21 #[.pointer none, .int .i64 lo, .int .i64 hi] w fun e w' => e = .returned (.bool false) ∧ w = w' := by
  go_enter Tryz.func21, Tryz.ntmps21
  go_wp2
  go_ret
  exact ⟨rfl, rfl⟩
/-- What Set leaves. -/
def LsSet (b : Nat) (S : List Nat) (part : Nat → Int) (rep : Int → Int) (u v : Int) (s : Bool) (most : Int) (l : List (Int × Int)) (lo hi : Int) (w : World) (e : Ending) (w' : World) : Prop :=
  ((lo ≤ hi ∧ (sumP l = 0 → lo = 0 ∧ hi = 0)) ∧ e = .returned (.bool true) ∧ Ls w' b S part rep u v s most l lo hi ∧ Frame S w w') ∨
  (¬ (lo ≤ hi ∧ (sumP l = 0 → lo = 0 ∧ hi = 0)) ∧ e = .returned (.bool false) ∧ Below w.heap.size w w')
set_option maxRecDepth 100000 in
set_option maxHeartbeats 2000000 in
theorem lsset_k (b : Nat) (S : List Nat) (part : Nat → Int) (rep : Int → Int) (u v : Int) (s : Bool) (most : Int) (l : List (Int × Int)) (el eh lo hi : Int) (w : World) (h : Ls w b S part rep u v s most l el eh) (hv : VOk l) :
    Calls Tryz.prog 21 #[.pointer (some ⟨b, 0, none⟩), .int .i64 lo, .int .i64 hi] w fun e w' => LsSet b S part rep u v s most l lo hi w e w' := by
  obtain ⟨bb, B, rfl, h⟩ := h
  have HT := Lib.hid (btot_v bb B false part rep s most l w h.bn hv)
  have H := Lib.hid h
  have f1 := h.at'.seven
  have l1 := h.at'.lt
  obtain ⟨t, ht⟩ : ∃ t, sumP l = t := ⟨_, rfl⟩
  have HTT := Lib.hid ht
  rw [ht] at HT
  have HNO : Hid (¬ (lo ≤ hi ∧ (t = 0 → lo = 0 ∧ hi = 0)) → ∀ w', Below w.heap.size w w' → LsSet b (b :: B) part rep u v s most l lo hi w (.returned (.bool false)) w') := fun hn w' hb => .inr ⟨by rw [HTT.out]; exact hn, rfl, hb⟩
  have HYES : Hid ((lo ≤ hi ∧ (t = 0 → lo = 0 ∧ hi = 0)) → ∀ w1, Below w.heap.size w w1 → LsSet b (b :: B) part rep u v s most l lo hi w (.returned (.bool true)) ((w1.setCell ⟨b, 5, none⟩ (.int .i64 lo)).setCell ⟨b, 6, none⟩ (.int .i64 hi))) := fun hy w1 hb => by
    have k1 := H.out.below hb
    have k2 := k1.set (lo' := lo) 5 (.int .i64 lo) (k1.at'.set_any 5 _ rfl)
    have k3 := k2.set (lo' := lo) (hi' := hi) 6 (.int .i64 hi) (k2.at'.set_any 6 _ rfl)
    exact .inl ⟨by rw [HTT.out]; exact hy, rfl, ⟨bb, B, rfl, k3⟩, ((Frame.of_below hb).setc (b := b) (.inl (by simp)) 5 _).setc (b := b) (.inl (by simp)) 6 _⟩
  have HA := Lib.hid fun W (hb : Below w.heap.size w W) => (h.below hb).at'
  clear h hv ht
  by_cases h0 : t = 0
  · have hd : (t == 0) = true := beq_iff_eq.2 h0
    by_cases hl : lo = 0
    · have hl0 : (lo != 0) = false := by rw [hl]; rfl
      by_cases hh : hi = 0
      · have hh0 : (hi != 0) = false := by rw [hh]; rfl
        have hg : decide (hi < lo) = false := decide_eq_false (by omega)
        have HY := Lib.hid (HYES.out ⟨by omega, fun _ => ⟨hl, hh⟩⟩)
        clear h0 hl hh HYES HNO
        go_enter Tryz.func21, Tryz.ntmps21
        go_wp2_with fail
        refine HT.out.mono ?_
        rintro e w1 ⟨rfl, hb⟩
        have f2 := (HA.out w1 hb).seven
        have l2 := (HA.out w1 hb).lt
        have HY2 := Lib.hid (HY.out w1 hb)
        clear hb HT f1 l1 HY HA
        go_wp2
        go_ret
        exact HY2.out
      · have hh0 : (hi != 0) = true := bne_iff_ne.2 hh
        have HN := Lib.hid (HNO.out fun k => hh (k.2 h0).2)
        clear h0 hl hh HYES HNO
        go_enter Tryz.func21, Tryz.ntmps21
        go_wp2_with fail
        refine HT.out.mono ?_
        rintro e w1 ⟨rfl, hb⟩
        have HN2 := Lib.hid (HN.out w1 hb)
        clear hb HT f1 l1 HN HA
        go_wp2
        go_ret
        exact HN2.out
    · have hl0 : (lo != 0) = true := bne_iff_ne.2 hl
      have HN := Lib.hid (HNO.out fun k => hl (k.2 h0).1)
      clear h0 hl HYES HNO
      go_enter Tryz.func21, Tryz.ntmps21
      go_wp2_with fail
      refine HT.out.mono ?_
      rintro e w1 ⟨rfl, hb⟩
      have HN2 := Lib.hid (HN.out w1 hb)
      clear hb HT f1 l1 HN HA
      go_wp2
      go_ret
      exact HN2.out
  · have hd : (t == 0) = false := beq_eq_false_iff_ne.2 h0
    by_cases hg0 : hi < lo
    · have hg : decide (hi < lo) = true := decide_eq_true hg0
      have HN := Lib.hid (HNO.out fun k => by omega)
      clear h0 hg0 HYES HNO
      go_enter Tryz.func21, Tryz.ntmps21
      go_wp2_with fail
      refine HT.out.mono ?_
      rintro e w1 ⟨rfl, hb⟩
      have HN2 := Lib.hid (HN.out w1 hb)
      clear hb HT f1 l1 HN HA
      go_wp2
      go_ret
      exact HN2.out
    · have hg : decide (hi < lo) = false := decide_eq_false hg0
      have HY := Lib.hid (HYES.out ⟨by omega, fun k => absurd k h0⟩)
      clear h0 hg0 HYES HNO
      go_enter Tryz.func21, Tryz.ntmps21
      go_wp2_with fail
      refine HT.out.mono ?_
      rintro e w1 ⟨rfl, hb⟩
      have f2 := (HA.out w1 hb).seven
      have l2 := (HA.out w1 hb).lt
      have HY2 := Lib.hid (HY.out w1 hb)
      clear hb HT f1 l1 HY HA
      go_wp2
      go_ret
      exact HY2.out
/-! ## Quantile. -/
/-- What Quantile answers. -/
def quantL (part : Nat → Int) (stand : Int → Int) (s : Bool) (most : Int) (l : List (Int × Int)) (lo hi a d : Int) : Int × Int :=
  if placeE a d (sumP l) = 0 then
    match docFind13 part stand s most l (placeT a d (sumP l)) with
    | none => (0, 9)
    | some x => (min (max x lo) hi, 0)
  else (0, placeE a d (sumP l))
theorem lsquant_nil (a d : Int) (w : World) : Calls Tryz.prog 16 #[.pointer none, .agg #[.int .u64 a, .int .u64 d]] w fun e w' => e = .returned (.tuple #[.int .i64 0, .int .i64 2]) ∧ Below w.heap.size w w' := by
  go_enter Tryz.func16, Tryz.ntmps16
  go_wp2
  go_ret2
  exact ⟨rfl, (by repeat (first | with_reducible assumption | with_reducible exact Below.refl _ _ | with_reducible refine Below.drew ?_ | with_reducible refine Below.drewN ?_ _ | with_reducible refine Below.setCell ?_ (by first | omega | (simp; done) | (simp; omega)) _ | with_reducible refine Below.alloc ?_ (by first | omega | (simp; done) | (simp; omega) | (simp [World.setCell]; omega)) _))⟩
theorem placeE_ge (a d n : Int) : placeE a d n = 0 ∨ 0 < placeE a d n := by
  unfold placeE
  split
  · split
    · exact .inr (by omega)
    · exact .inl rfl
  · exact .inr (by omega)
theorem placeT_lt {a d n : Int} (ha : 0 ≤ a) (hd : 0 ≤ d) (hn : 0 ≤ n) (hn' : n ≤ 9223372036854775807) (hE : placeE a d n = 0) : 0 ≤ placeT a d n ∧ placeT a d n < 18446744073709551616 := by
  have hg : goodF a d = true ∧ n ≠ 0 := by
    unfold placeE at hE
    split at hE
    · rename_i h1
      split at hE
      · omega
      · rename_i h2
        exact ⟨h1, h2⟩
    · omega
  have := placeT_is ha (show 0 < n by have := hg.2; omega) (by omega) hg.1
  have h1 := this.one
  have h2 := this.le
  omega
set_option maxRecDepth 100000 in
set_option maxHeartbeats 2000000 in
theorem lsquant_k (b : Nat) (S : List Nat) (part : Nat → Int) (rep stand : Int → Int) (u v : Int) (s : Bool) (most : Int) (l : List (Int × Int)) (lo hi a d : Int) (w : World) (h : Ls w b S part rep u v s most l lo hi) (hp : PS part rep stand) (hv : VOk l) (h1 : 0 ≤ a) (h2 : a < 18446744073709551616) (h3 : 0 ≤ d) (h4 : d < 18446744073709551616) :
    Calls Tryz.prog 16 #[.pointer (some ⟨b, 0, none⟩), .agg #[.int .u64 a, .int .u64 d]] w fun e w' => e = .returned (.tuple #[.int .i64 (quantL part stand s most l lo hi a d).1, .int .i64 (quantL part stand s most l lo hi a d).2]) ∧ Below w.heap.size w w' := by
  obtain ⟨bb, B, rfl, h⟩ := h
  have hs0 := hv.sum0
  have hs := hv.sum
  have HTV := Lib.hid fun W (hb : Below w.heap.size w W) => btot_v bb B false part rep s most l W (h.bn.below hb) hv
  have HC := Lib.hid fun w' => place_any a d (sumP l) w' h1 h2 h3 h4 hs0 (by omega)
  have HF : Hid (placeE a d (sumP l) = 0 → ∀ W, Below w.heap.size w W → Calls Tryz.prog 38 #[.pointer (some ⟨bb, 0, none⟩), .int .u64 (placeT a d (sumP l))] W fun e w' => e = .returned (optI (docFind13 part stand s most l (placeT a d (sumP l)))) ∧ Below W.heap.size W w') := fun hE W hb =>
    bfind_v bb B false part rep stand s most _ l W (h.bn.below hb) hp hv (placeT_lt h1 h3 hs0 hs hE)
  have HQ : Hid ((placeE a d (sumP l) = 0 → quantL part stand s most l lo hi a d = match docFind13 part stand s most l (placeT a d (sumP l)) with | none => (0, 9) | some x => (min (max x lo) hi, 0)) ∧ (placeE a d (sumP l) ≠ 0 → quantL part stand s most l lo hi a d = (0, placeE a d (sumP l)))) :=
    ⟨fun e => by unfold quantL; rw [if_pos e], fun e => by unfold quantL; rw [if_neg e]⟩
  obtain ⟨qp, hqp⟩ : ∃ q, quantL part stand s most l lo hi a d = q := ⟨_, rfl⟩
  rw [hqp] at HQ ⊢
  obtain ⟨o, ho⟩ : ∃ o, docFind13 part stand s most l (placeT a d (sumP l)) = o := ⟨_, rfl⟩
  rw [ho] at HF HQ
  obtain ⟨E, hE⟩ : ∃ E, placeE a d (sumP l) = E := ⟨_, rfl⟩
  obtain ⟨t, ht⟩ : ∃ t, placeT a d (sumP l) = t := ⟨_, rfl⟩
  rw [hE] at HC HF HQ
  rw [ht] at HC HF
  obtain ⟨n, hn⟩ : ∃ n, sumP l = n := ⟨_, rfl⟩
  rw [hn] at HTV HC
  have HA := Lib.hid fun W (hb : Below w.heap.size w W) => (h.below hb).at'
  clear h hp hv h1 h2 h3 h4 hs0 hs hqp ho hE ht hn
  have hb0 : Below w.heap.size w (w.alloc (.cells #[.int .u64 a, .int .u64 d] 24)) := (Below.refl _ _).alloc (Nat.le_refl _) _
  have r1 := At.new w #[.int .u64 a, .int .u64 d] 24
  have s1 := HA.out _ hb0
  go_enter Tryz.func16, Tryz.ntmps16
  go_wp2
  obtain ⟨W1, hW1⟩ : ∃ W, w.alloc (.cells #[.int .u64 a, .int .u64 d] 24) = W := ⟨_, rfl⟩
  have HT1 := Lib.hid fun W (hb : Below W1.heap.size W1 W) => HTV.out W (by rw [hW1] at hb0; exact keep1 hb0 hb)
  rw [hW1] at hb0 r1 s1
  try rw [hW1]
  clear hW1
  have hfar1 := fun x : Far W1 => (x.at s1).seven
  have hfar2 := fun x : Far W1 => (x.at r1).two
  refine wp_region_far (by kernel_rfl) (by kernel_rfl) ?_
  repeat (first | go_big_quiet_skip | (go_big_quiet_want; go_big_quiet_op; first | go_big_quiet_on | (apply Exists.intro; refine ⟨fun _ => ?_, ?_⟩; (focus (first | (with_reducible refine far_of (HT1.out _ (Far.below _))) | (with_reducible refine far_of (HC.out _)))); go_big_quiet_on)))
  refine wpQuiet_nil ?_
  rintro _ ⟨xq, rfl⟩
  clear hfar1 hfar2
  have HB2 : Hid (Below w.heap.size w xq.far) := keep1 hb0 xq.below
  obtain ⟨W2, hW2⟩ : ∃ W, xq.far = W := ⟨_, rfl⟩
  rw [hW2] at HB2 ⊢
  clear hW2 s1 r1 hb0 HT1 HTV HC
  by_cases hE : E = 0
  · have HQ1 := Lib.hid (HQ.out.1 hE)
    have HF1 := Lib.hid (HF.out hE)
    subst hE
    have s2 := HA.out W2 HB2.out
    have f2 := s2.seven
    have l2 := s2.lt
    clear HQ HF s2
    go_wp2_with fail
    refine (HF1.out W2 HB2.out).mono ?_
    rintro e w3 ⟨rfl, hb⟩
    have HB3 := Lib.hid (keep1 HB2.out hb)
    clear hb HF1 HB2 f2 l2
    cases o with
    | none =>
      rw [show optI none = .tuple #[.int .i64 0, .bool false] from rfl]
      clear HA
      go_wp2
      go_ret2
      exact ⟨by rw [HQ1.out]; rfl, HB3.out⟩
    | some x =>
      rw [show optI (some x) = .tuple #[.int .i64 x, .bool true] from rfl]
      have s3 := HA.out w3 HB3.out
      clear HA
      go_wp2
      have hfar1 := fun x : Far w3 => (x.at s3).seven
      refine wp_region_far (by kernel_rfl) (by kernel_rfl) ?_
      repeat (first | go_big_quiet_skip | (go_big_quiet_want; go_big_quiet_op; first | go_big_quiet_on | (apply Exists.intro; refine ⟨fun _ => ?_, ?_⟩; (focus (first | (fail))); go_big_quiet_on)))
      refine wpQuiet_nil ?_
      rintro _ ⟨xq, rfl⟩
      clear hfar1
      have hb2 := xq.below
      clear s3
      go_wp2
      go_ret2
      exact ⟨by rw [HQ1.out]; rfl, keep1 HB3.out hb2⟩
  · have HQ1 := Lib.hid (HQ.out.2 hE)
    have hd : (E != 0) = true := bne_iff_ne.2 hE
    clear hE HQ HF HA
    go_wp2
    go_ret2
    exact ⟨by rw [HQ1.out]; rfl, HB2.out⟩
/-! ## The document's. -/
set_option maxRecDepth 100000 in
set_option maxHeartbeats 2000000 in
theorem rquant_any (m : Nat) (lows reps : Value) (dg : Int) (s : Bool) (most : Int) (A : Option Addr) (len cap : Nat) (part : Nat → Int) (stand : Int → Int) (l : List (Int × Int)) (a d : Int) (w : World) (h : BinsAt w m lows reps dg (sideZ s) most A len cap) (hP : PartOk w m part) (hS : StandOk w m stand) (hl : l.length = len) (hm : len ≤ 1000) (hR : RdP w A l) (hv : VOk l)
    (hpr : ∀ a, 0 < a → a ≤ 9223372036854775808 → -9223372036854775808 ≤ part a ∧ part a ≤ 9223372036854775807) (hmo : 1 ≤ most ∧ most ≤ 4096) (h1 : 0 ≤ a) (h2 : a < 18446744073709551616) (h3 : 0 ≤ d) (h4 : d < 18446744073709551616) :
    Calls Tryz.prog 22 #[.pointer (some ⟨m, 0, none⟩), .agg #[.int .u64 a, .int .u64 d]] w fun e w' => e = .returned (.tuple #[.int .i64 (quantL part stand s most l (eLow l) (eHigh l) a d).1, .int .i64 (quantL part stand s most l (eLow l) (eHigh l) a d).2]) ∧ Below w.heap.size w w' := by
  have hs0 := hv.sum0
  have hs := hv.sum
  have HTV := Lib.hid fun W (hb : Below w.heap.size w W) => btotal_any m lows reps dg (sideZ s) most A len cap l W (h.below hb) hl (by omega) (hR.below hb) hv.pos hs
  have HC := Lib.hid fun w' => rplace_any a d (sumP l) w' h1 h2 h3 h4 hs0 (by omega)
  have HF := Lib.hid fun (t : Int) W (hb : Below w.heap.size w W) => bdfind_any m lows reps dg s most A len cap part stand l t W (h.below hb) (hP.below hb) (hS.below hb) hl (by omega) (hR.below hb) hv.ok hv.pos hs hpr hmo
  have HE := Lib.hid fun W (hb : Below w.heap.size w W) => vends_told A len cap l W hl (by omega) (hR.below hb)
  have HQ : Hid ((placeE a d (sumP l) = 0 → quantL part stand s most l (eLow l) (eHigh l) a d = match docFind13 part stand s most l (placeT a d (sumP l)) with | none => (0, 9) | some x => (min (max x (eLow l)) (eHigh l), 0)) ∧ (placeE a d (sumP l) ≠ 0 → quantL part stand s most l (eLow l) (eHigh l) a d = (0, placeE a d (sumP l)))) :=
    ⟨fun e => by unfold quantL; rw [if_pos e], fun e => by unfold quantL; rw [if_neg e]⟩
  have hEG := placeE_ge a d (sumP l)
  obtain ⟨qp, hqp⟩ : ∃ q, quantL part stand s most l (eLow l) (eHigh l) a d = q := ⟨_, rfl⟩
  rw [hqp] at HQ ⊢
  obtain ⟨el, hel⟩ : ∃ z, eLow l = z := ⟨_, rfl⟩
  obtain ⟨eh, heh⟩ : ∃ z, eHigh l = z := ⟨_, rfl⟩
  obtain ⟨ei, hei⟩ : ∃ z, eIs l = z := ⟨_, rfl⟩
  rw [hel, heh] at HQ
  rw [hel, heh, hei] at HE
  have HF2 := Lib.hid (HF.out (placeT a d (sumP l)))
  obtain ⟨o, ho⟩ : ∃ o, docFind13 part stand s most l (placeT a d (sumP l)) = o := ⟨_, rfl⟩
  rw [ho] at HF2 HQ
  obtain ⟨E, hE⟩ : ∃ E, placeE a d (sumP l) = E := ⟨_, rfl⟩
  obtain ⟨t, ht⟩ : ∃ t, placeT a d (sumP l) = t := ⟨_, rfl⟩
  rw [hE] at HC HQ hEG
  rw [ht] at HC HF2
  obtain ⟨n, hn⟩ : ∃ n, sumP l = n := ⟨_, rfl⟩
  rw [hn] at HTV HC
  have HA := Lib.hid fun W (hb : Below w.heap.size w W) => h.below hb
  clear h hP hS hl hm hR hv hpr hmo h1 h2 h3 h4 hs0 hs hqp ho hE ht hn hel heh hei HF
  have hb0 : Below w.heap.size w (w.alloc (.cells #[.int .u64 a, .int .u64 d] 24)) := (Below.refl _ _).alloc (Nat.le_refl _) _
  have r1 := At.new w #[.int .u64 a, .int .u64 d] 24
  go_enter Tryz.func22, Tryz.ntmps22
  go_wp2
  obtain ⟨W1, hW1⟩ : ∃ W, w.alloc (.cells #[.int .u64 a, .int .u64 d] 24) = W := ⟨_, rfl⟩
  have HT1 := Lib.hid fun W (hb : Below W1.heap.size W1 W) => HTV.out W (by rw [hW1] at hb0; exact keep1 hb0 hb)
  rw [hW1] at hb0 r1
  try rw [hW1]
  clear hW1
  have hfar1 := fun x : Far W1 => (x.at r1).two
  refine wp_region_far (by kernel_rfl) (by kernel_rfl) ?_
  repeat (first | go_big_quiet_skip | (go_big_quiet_want; go_big_quiet_op; first | go_big_quiet_on | (apply Exists.intro; refine ⟨fun _ => ?_, ?_⟩; (focus (first | (with_reducible refine far_of (HT1.out _ (Far.below _))) | (with_reducible refine far_of (HC.out _)))); go_big_quiet_on)))
  refine wpQuiet_nil ?_
  rintro _ ⟨xq, rfl⟩
  clear hfar1
  have HB2 : Hid (Below w.heap.size w xq.far) := keep1 hb0 xq.below
  obtain ⟨W2, hW2⟩ : ∃ W, xq.far = W := ⟨_, rfl⟩
  rw [hW2] at HB2 ⊢
  clear hW2 r1 hb0 HT1 HTV HC
  by_cases hE : E = 0
  · have HQ1 := Lib.hid (HQ.out.1 hE)
    subst hE
    clear HQ hEG
    go_wp2_with fail
    refine (HF2.out W2 HB2.out).mono ?_
    rintro e w3 ⟨rfl, hb⟩
    have HB3 := Lib.hid (keep1 HB2.out hb)
    clear hb HF2 HB2
    cases o with
    | none =>
      rw [show optI none = .tuple #[.int .i64 0, .bool false] from rfl]
      clear HA
      go_wp2
      go_ret2
      exact ⟨by rw [HQ1.out]; rfl, HB3.out⟩
    | some x =>
      rw [show optI (some x) = .tuple #[.int .i64 x, .bool true] from rfl]
      have f3 := At.six (HA.out w3 HB3.out)
      have l3 := At.lt (HA.out w3 HB3.out)
      clear HA
      go_wp2_with fail
      refine (HE.out w3 HB3.out).mono ?_
      rintro e w4 ⟨rfl, hb⟩
      have HB4 := Lib.hid (keep1 HB3.out hb)
      clear hb HE HB3 f3 l3
      go_wp2
      go_ret2
      exact ⟨by rw [HQ1.out]; rfl, HB4.out⟩
  · have HQ1 := Lib.hid (HQ.out.2 hE)
    have hd : decide (0 < E) = true := decide_eq_true (by omega)
    clear hE hEG HQ HF2 HA
    go_wp2
    go_ret2
    exact ⟨by rw [HQ1.out]; rfl, HB2.out⟩
end Go.Proofs.YtondkkhagbcadaaGreat
