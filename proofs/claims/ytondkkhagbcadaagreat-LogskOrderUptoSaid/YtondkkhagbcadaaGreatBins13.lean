/- Contracts of the document's bins: Part (by digits), Row, Total, Exact, Stands (by digits). -/
import Derived.Test.YtondkkhagbcadaaGreatProg
import Derived.Test.YtondkkhagbcadaaGreatRowV
import Derived.Test.YtondkkhagbcadaaGreatRef12
import Derived.Test.YtondkkhagbcadaaGreatSpanAll
import Derived.Test.YtondkkhagbcadaaGreatWalks
namespace Go.Proofs.YtondkkhagbcadaaGreat
open Go.RowKit

theorem At.six {w : World} {b : Nat} {T : TypeId} {v0 v1 v2 v3 v4 v5 : Value} (h : At w b #[v0, v1, v2, v3, v4, v5] T) : w.cell? ⟨b, 0, none⟩ = some v0 ∧ w.cell? ⟨b, 1, none⟩ = some v1 ∧ w.cell? ⟨b, 2, none⟩ = some v2 ∧ w.cell? ⟨b, 3, none⟩ = some v3 ∧ w.cell? ⟨b, 4, none⟩ = some v4 ∧ w.cell? ⟨b, 5, none⟩ = some v5 ∧
    w.frozen? ⟨b, 0, none⟩ = false ∧ w.frozen? ⟨b, 1, none⟩ = false ∧ w.frozen? ⟨b, 2, none⟩ = false ∧ w.frozen? ⟨b, 3, none⟩ = false ∧ w.frozen? ⟨b, 4, none⟩ = false ∧ w.frozen? ⟨b, 5, none⟩ = false :=
  ⟨h.cell rfl, h.cell rfl, h.cell rfl, h.cell rfl, h.cell rfl, h.cell rfl, h.frozen 0, h.frozen 1, h.frozen 2, h.frozen 3, h.frozen 4, h.frozen 5⟩
/-- A block of bins as the document has them. -/
def BinsAt (w : World) (m : Nat) (lows reps : Value) (digits side most : Int) (A : Option Addr) (len cap : Nat) : Prop := At w m #[lows, reps, .int .i64 digits, .int .i64 side, .int .i64 most, .slice A len cap] 41
theorem BinsAt.below {w w' : World} {m : Nat} {lows reps : Value} {digits side most : Int} {A : Option Addr} {len cap : Nat} (h : BinsAt w m lows reps digits side most A len cap) (hb : Below w.heap.size w w') : BinsAt w' m lows reps digits side most A len cap := At.below h hb
/-- A magnitude's part is so told, whatever new memory there is. -/
def PartOk (w : World) (m : Nat) (part : Nat → Int) : Prop := ∀ (W : World), Below w.heap.size w W → ∀ a : Nat, 0 < a → a ≤ 9223372036854775808 →
  Calls Tryz.prog 19 #[.pointer (some ⟨m, 0, none⟩), .int .u64 a] W fun e W' => e = .returned (.int .i64 (part a)) ∧ Below W.heap.size W W'
theorem PartOk.below {w w' : World} {m : Nat} {part : Nat → Int} (h : PartOk w m part) (hb : Below w.heap.size w w') : PartOk w' m part := fun W hW a h1 h2 => h W (keep1 hb hW) a h1 h2
/-- What stands for a value is so told. -/
def StandOk (w : World) (m : Nat) (stand : Int → Int) : Prop := ∀ (W : World), Below w.heap.size w W → ∀ x : Int, -9223372036854775808 ≤ x → x ≤ 9223372036854775807 →
  Calls Tryz.prog 60 #[.pointer (some ⟨m, 0, none⟩), .int .i64 x] W fun e W' => e = .returned (.int .i64 (stand x)) ∧ Below W.heap.size W W'
theorem StandOk.below {w w' : World} {m : Nat} {stand : Int → Int} (h : StandOk w m stand) (hb : Below w.heap.size w w') : StandOk w' m stand := fun W hW x h1 h2 => h W (keep1 hb hW) x h1 h2

/-- By so many digits. -/
def partD (d : Int) (a : Nat) : Int := (idxN (gOf d) a : Nat)
def repM (g m : Nat) : Nat := loN g m + (hiN g m - loN g m) / 2
def standV (rep : Nat → Nat) (x : Int) : Int := if x = 0 then 0 else if 0 < x then min (rep x.natAbs : Int) 9223372036854775807 else -(rep x.natAbs : Int)
theorem partD_ok (w : World) (m : Nat) (lows reps : Value) (d side most : Int) (A : Option Addr) (len cap : Nat) (h : BinsAt w m lows reps d side most A len cap) (h1 : 1 ≤ d) (h4 : d ≤ 4) : PartOk w m (partD d) := by
  intro W hW a ha ha'
  have f1 := At.six (At.below h hW)
  have l1 := (At.below h hW).lt
  have HX := Lib.hid fun W' => rindex_any d a W' h1 h4 ha ha'
  have hd0 : (0 : Int) < d := by omega
  have HP : Hid (partD d a = (idxN (gOf d) a : Nat)) := rfl
  rw [HP.out]
  obtain ⟨ix, hix⟩ : ∃ i, idxN (gOf d) a = i := ⟨_, rfl⟩
  rw [hix] at HX ⊢
  clear h hW h1 h4 ha ha' hix
  go_enter Tryz.func19, Tryz.ntmps19
  go_wp2_with fail
  refine (HX.out W).mono ?_
  rintro e w1 ⟨rfl, hb⟩
  go_wp2
  go_ret
  exact ⟨rfl, hb⟩
theorem standD_ok (w : World) (m : Nat) (lows reps : Value) (d side most : Int) (A : Option Addr) (len cap : Nat) (h : BinsAt w m lows reps d side most A len cap) (h1 : 1 ≤ d) (h4 : d ≤ 4) : StandOk w m (standV (repM (gOf d))) := by
  intro W hW x hx1 hx2
  have f1 := At.six (At.below h hW)
  have l1 := (At.below h hW).lt
  have hd0 : (0 : Int) < d := by omega
  by_cases hx0 : x = 0
  · subst hx0
    have HV : Hid (standV (repM (gOf d)) 0 = 0) := rfl
    rw [HV.out]
    go_enter Tryz.func60, Tryz.ntmps60
    go_wp2
    go_ret
    exact ⟨rfl, Below.refl _ _⟩
  · have hx0' : (x == 0) = false := beq_eq_false_iff_ne.2 hx0
    have hn0 : 0 < x.natAbs := by omega
    have hn1 : x.natAbs ≤ 9223372036854775808 := by omega
    have HS := Lib.hid (rsize_any x W hx1 hx2)
    have HX := Lib.hid (rrange_any d x.natAbs W h1 h4 hn0 hn1)
    have hlh := lo_le_hi (g := gOf d) hn0 hn1
    have hhi := hi_le (gOf d) x.natAbs
    have HV : Hid (standV (repM (gOf d)) x = if 0 < x then min ((loN (gOf d) x.natAbs + (hiN (gOf d) x.natAbs - loN (gOf d) x.natAbs) / 2 : Nat) : Int) 9223372036854775807 else -((loN (gOf d) x.natAbs + (hiN (gOf d) x.natAbs - loN (gOf d) x.natAbs) / 2 : Nat) : Int)) := by
      show _ = _
      unfold standV
      rw [if_neg hx0]
      rfl
    rw [HV.out]
    obtain ⟨lo, hlo⟩ : ∃ l, loN (gOf d) x.natAbs = l := ⟨_, rfl⟩
    obtain ⟨hi, hhie⟩ : ∃ l, hiN (gOf d) x.natAbs = l := ⟨_, rfl⟩
    obtain ⟨mg, hmg⟩ : ∃ l, x.natAbs = l := ⟨_, rfl⟩
    rw [hlo, hhie] at HX hlh ⊢
    rw [hhie] at hhi
    rw [hmg] at HX HS
    have HM := Lib.hid (wrap_mid lo hi hlh hhi)
    have hr : lo + (hi - lo) / 2 ≤ 9223372036854775808 := by omega
    obtain ⟨r, hre⟩ : ∃ r, lo + (hi - lo) / 2 = r := ⟨_, rfl⟩
    rw [hre] at HM hr ⊢
    have v1 : IntKind.u64.wrap ((hi : Int) - lo) = (hi : Int) - lo := by simp only [IntKind.wrap_u64]; omega
    clear h hW h1 h4 hn0 hn1 hlo hhie hmg hre hlh hhi HV
    by_cases hp : 0 < x
    · have hd1 : decide (0 < x) = true := decide_eq_true hp
      rw [if_pos hp]
      have HW : Hid (wrap64 (min (r : Int) 9223372036854775807) = min (r : Int) 9223372036854775807) := by show _ = _; unfold wrap64; omega
      clear hp hx0 hx1 hx2
      go_enter Tryz.func60, Tryz.ntmps60
      go_wp2_with fail
      refine HS.out.mono ?_
      rintro e w1 ⟨rfl, rfl⟩
      go_wp2_with fail
      refine HX.out.mono ?_
      rintro e w2 ⟨rfl, hb⟩
      clear HX HS f1 l1
      go_wp2
      go_ret
      exact ⟨by rw [HM.out, HW.out]; rfl, hb⟩
    · have hd1 : decide (0 < x) = false := decide_eq_false hp
      rw [if_neg hp]
      have HW : Hid (wrap64 (-wrap64 (r : Int)) = -(r : Int)) := by show _ = _; unfold wrap64; omega
      clear hp hx0 hx1 hx2
      by_cases hr2 : r = 9223372036854775808
      · have hrd : (IntKind.u64.wrap ((lo : Int) + IntKind.u64.wrap (((hi : Int) - lo).tdiv 2)) == 9223372036854775808) = true := by rw [HM.out, hr2]; rfl
        have HR2 : Hid (-(r : Int) = -9223372036854775808) := by show _ = _; omega
        rw [HR2.out]
        clear hr2
        go_enter Tryz.func60, Tryz.ntmps60
        go_wp2_with fail
        refine HS.out.mono ?_
        rintro e w1 ⟨rfl, rfl⟩
        go_wp2_with fail
        refine HX.out.mono ?_
        rintro e w2 ⟨rfl, hb⟩
        clear HX HS f1 l1
        go_wp2
        go_ret
        exact ⟨rfl, hb⟩
      · have hrd : (IntKind.u64.wrap ((lo : Int) + IntKind.u64.wrap (((hi : Int) - lo).tdiv 2)) == 9223372036854775808) = false := by rw [HM.out]; exact beq_eq_false_iff_ne.2 (by omega)
        clear hr2
        go_enter Tryz.func60, Tryz.ntmps60
        go_wp2_with fail
        refine HS.out.mono ?_
        rintro e w1 ⟨rfl, rfl⟩
        go_wp2_with fail
        refine HX.out.mono ?_
        rintro e w2 ⟨rfl, hb⟩
        clear HX HS f1 l1
        go_wp2
        go_ret
        exact ⟨by rw [HM.out, HW.out]; rfl, hb⟩

theorem rowV_ok {part : Nat → Int} {below : Bool} {l : List (Int × Int)} (hp : ∀ a, 0 < a → a ≤ 9223372036854775808 → -9223372036854775808 ≤ part a ∧ part a ≤ 9223372036854775807) (hok : okP l) : okP (rowV part below l) := by
  refine addAll_ok (ps := []) (fun x hx => by simp at hx) fun x hx => ?_
  unfold selV at hx
  obtain ⟨v, hv, rfl⟩ := List.mem_map.1 hx
  obtain ⟨m1, m2⟩ := List.mem_filter.1 hv
  obtain ⟨m3, m4⟩ := hok v m1
  have m5 : v.1 ≠ 0 := fun e => by unfold sgn at m2; rw [e] at m2; simp at m2
  exact ⟨hp _ (by omega) (by omega), m4⟩
/-- A row of values by parts, as the document tells it. -/
def RowR (ps : List (Int × Int)) (w : World) (e : Ending) (w' : World) : Prop := ∃ A' c', e = .returned (.slice A' ps.length c') ∧ RdP w' A' ps ∧ Below w.heap.size w w'
set_option maxRecDepth 100000 in
set_option maxHeartbeats 2000000 in
theorem brow_any (m : Nat) (lows reps : Value) (digits side most : Int) (A : Option Addr) (len cap : Nat) (part : Nat → Int) (l : List (Int × Int)) (below : Bool) (w : World) (h : BinsAt w m lows reps digits side most A len cap) (hP : PartOk w m part) (hl : l.length = len) (hm : len ≤ 1000000) (hR : RdP w A l) (hok : okP l) (hpr : ∀ a, 0 < a → a ≤ 9223372036854775808 → -9223372036854775808 ≤ part a ∧ part a ≤ 9223372036854775807) :
    Calls Tryz.prog 61 #[.pointer (some ⟨m, 0, none⟩), .bool below] w fun e w' => RowR (rowV part below l) w e w' := by
  have HR := Lib.hid hR
  have HO := Lib.hid hok
  have HL := Lib.hid hl
  have HPA := Lib.hid hP
  have HPR := Lib.hid hpr
  have f1 := At.six h
  have l1 := At.lt h
  clear hR hok hl hP hpr h
  go_enter Tryz.func61, Tryz.ntmps61
  go_wp2
  clear f1
  go_loopw [5, 7, 13] (fun o _ i wr => ∃ k n : Nat, ∃ A' cap', k ≤ len ∧ i = .int .i64 k ∧ o = .slice A' n cap' ∧ Hid ((rowV part below (l.take k)).length = n ∧ RdP wr A' (rowV part below (l.take k))) ∧ Below w.heap.size w wr) (fun _ _ i _ => len - (intOf i).toNat)
  case atStart => exact ⟨0, 0, none, 0, by omega, rfl, rfl, ⟨rfl, RdP.nil _ _⟩, Below.refl _ _⟩
  case round =>
    obtain ⟨k, n, A', cap', hk, rfl, rfl, HW, hB⟩ := hrel
    have zB := hB.size
    by_cases hlt : k < len
    · obtain ⟨g, o, rfl, hg, c1, c2⟩ := (HR.out.below hB).at k (by have := HL.out; omega)
      have HOX := Lib.hid (HO.out.at k (by have := HL.out; omega))
      have HT := Lib.hid (rowV_take (part := part) (below := below) (l := l) k (by have := HL.out; omega))
      obtain ⟨⟨x, y⟩, hx⟩ : ∃ x, l[k]'(by have := HL.out; omega) = x := ⟨_, rfl⟩
      rw [hx] at c1 c2 HOX HT
      dsimp only at c1 c2 HOX HT
      clear hx
      have aX := At.new wr #[.int .i64 x, .int .u64 y] 48
      have hba : Below wr.heap.size wr (wr.alloc (.cells #[.int .i64 x, .int .u64 y] 48)) := (Below.refl _ _).alloc (Nat.le_refl _) _
      have HLEN : Hid ((rowV part below (l.take k)).length ≤ 1000000) := by have := rowV_len (part := part) (below := below) (l := l.take k); rw [List.length_take] at this; show _ ≤ _; omega
      have HOK : Hid (okP (rowV part below (l.take k))) := rowV_ok HPR.out fun x hx => HO.out x (List.mem_of_mem_take hx)
      cases below with
      | true =>
        rcases Int.lt_or_le x 0 with hx | hx
        · have hd : decide (x < 0) = true := decide_eq_true hx
          have hx0' : (x == 0) = false := beq_eq_false_iff_ne.2 (by omega)
          have HSG : sgn true x = true := by rw [sgn_true]; exact hd
          have HT2 : Hid (rowV part true (l.take (k + 1)) = rowAdd (rowV part true (l.take k)) (part x.natAbs) y) := by show _ = _; rw [HT.out, if_pos HSG]
          have HN : Hid (0 < x.natAbs ∧ x.natAbs ≤ 9223372036854775808) := by have := HOX.out; exact ⟨by omega, by omega⟩
          clear HT HR
          go_wp2
          obtain ⟨vB, hvB⟩ : ∃ b, wr.heap.size = b := ⟨_, rfl⟩
          have aX4 := aX.drew
          have HB4 : Hid (Below w.heap.size w ((wr.alloc (.cells #[.int .i64 x, .int .u64 y] 48)).drew)) := (hB.trans (hba.mono zB)).drew
          have HRW4 : Hid (RdP ((wr.alloc (.cells #[.int .i64 x, .int .u64 y] 48)).drew) A' (rowV part true (l.take k))) := (HW.out.2.below hba).below (Below.refl _ _).drew
          rw [hvB] at aX4
          simp only [hvB]
          obtain ⟨W4, hW4⟩ : ∃ W, (wr.alloc (.cells #[.int .i64 x, .int .u64 y] 48)).drew = W := ⟨_, rfl⟩
          rw [hW4] at aX4 HB4 HRW4
          haveI : Nonempty (Held fun W => At W vB #[.int .i64 x, .int .u64 y] 48) := ⟨⟨W4, aX4⟩⟩
          have hfar := fun z : Held fun W => At W vB #[.int .i64 x, .int .u64 y] 48 => z.held.two
          refine wp_region_noPanic ?_
          refine wp_region_held_drew (S := HeldS fun W => At W vB #[.int .i64 x, .int .u64 y] 48) (by kernel_rfl) (HeldS.mk' (hW4 ▸ aX4)) (fun hHeld => ?_)
          rw [hW4] at hHeld ⊢
          clear hW4 aX hba hvB c1 c2 hB zB
          refine wpAnyH_run0 [true, true, true, true, false, false, true, true] 4 (by kernel_rfl) (by kernel_rfl) (fun _ _ _ _ h => h) (by kernel_rfl) hHeld ?_
          simp only [runOps_true, runOps_false, runOps_nil]
          repeat (first | go_big_quiet_skip | (go_big_quiet_want; go_big_quiet_op; go_big_quiet_on))
          refine wpQuiet_nil ?_
          refine wpAnyH_ready (rs := [4]) (by kernel_rfl) (by simp) ?_
          refine AllReadyH.cons rfl (fun K hK => ?_) AllReadyH.nil
          go_simp
          go_wp2_with (go_at_call 18; refine (rsize_any x W4 HOX.out.1.1 HOX.out.1.2).mono ?_; rintro e w5 ⟨rfl, rfl⟩)
          refine hK.out _ _ ?_ (fun hHeld => ?_)
          clear hK K
          · exact HeldS.mk' aX4
          refine wpAnyH_ready (rs := [5]) (by kernel_rfl) (by simp) ?_
          refine AllReadyH.cons rfl (fun K hK => ?_) AllReadyH.nil
          go_simp
          go_wp2_with (go_at_call 19; refine (HPA.out W4 HB4.out x.natAbs HN.out.1 HN.out.2).mono ?_; rintro e w5 ⟨rfl, hb⟩)
          refine hK.out _ _ ?_ (fun hHeld => ?_)
          clear hK K
          · exact HeldS.mk' (aX4.below hb)
          replace aX4 := aX4.below hb
          have HB5 := Lib.hid (keep1 HB4.out hb)
          have HRW5 := Lib.hid (HRW4.out.below hb)
          clear hb
          refine wpAnyH_ready (rs := [8]) (by kernel_rfl) (by simp) ?_
          refine AllReadyH.cons rfl (fun K hK => ?_) AllReadyH.nil
          go_simp
          go_wp2_with (go_at_call 81; refine (radd06_any A' n cap' (rowV part true (l.take k)) (part x.natAbs) y w5 HW.out.1 (by have := HLEN.out; have := HW.out.1; omega) HRW5.out HOK.out (HPR.out _ HN.out.1 HN.out.2) HOX.out.2).mono ?_; rintro e w6 ⟨A6, c6, rfl, ho, hb⟩)
          refine hK.out _ _ ?_ (fun hHeld => ?_)
          clear hK K
          · exact HeldS.mk' (aX4.below hb)
          have HB6 := Lib.hid (keep1 HB5.out hb)
          have HR6 := Lib.hid ho.rd
          rw [← HT2.out] at HR6 ⊢
          clear hb ho aX4
          refine wpAnyH_run0 [false, false, false, false, false, false, false, false, false, true] 0 (by kernel_rfl) (by kernel_rfl) (fun _ _ _ _ h => h) (by kernel_rfl) hHeld ?_
          simp only [runOps_true, runOps_false, runOps_nil]
          repeat (first | go_big_quiet_skip | (go_big_quiet_want; go_big_quiet_op; go_big_quiet_on))
          refine wpQuiet_nil ?_
          refine wpAnyH_done (by kernel_rfl) ?_ _
          refine NoPanic.normal ?_
          clear hfar hHeld
          go_wp2
          go_roundw
          case rel => exact ⟨k + 1, _, A6, c6, by omega, by simp, rfl, ⟨rfl, HR6.out⟩, HB6.out⟩
          case measure => simp [intOf]; omega
        · have hd : decide (x < 0) = false := decide_eq_false (by omega)
          have HSG : sgn true x = false := by rw [sgn_true]; exact hd
          by_cases h0 : x = 0
          · subst h0
            have HT2 : Hid (rowV part true (l.take (k + 1)) = rowV part true (l.take k)) := by show _ = _; rw [HT.out, if_neg (by rw [HSG]; decide)]
            have HW2 : Hid ((rowV part true (l.take (k + 1))).length = n ∧ RdP (wr.alloc (.cells #[.int .i64 0, .int .u64 y] 48)) A' (rowV part true (l.take (k + 1)))) := ⟨by rw [HT2.out]; exact HW.out.1, by rw [HT2.out]; exact HW.out.2.below hba⟩
            clear HT HR
            go_wp2
            go_roundw
            case rel => exact ⟨k + 1, n, A', cap', by omega, by simp, rfl, HW2, (hB.trans (hba.mono zB))⟩
            case measure => simp [intOf]; omega
          · have hx0' : (x == 0) = false := beq_eq_false_iff_ne.2 h0
            have HT2 : Hid (rowV part true (l.take (k + 1)) = rowV part true (l.take k)) := by show _ = _; rw [HT.out, if_neg (by rw [HSG]; decide)]
            have HW2 : Hid ((rowV part true (l.take (k + 1))).length = n ∧ RdP (wr.alloc (.cells #[.int .i64 x, .int .u64 y] 48)) A' (rowV part true (l.take (k + 1)))) := ⟨by rw [HT2.out]; exact HW.out.1, by rw [HT2.out]; exact HW.out.2.below hba⟩
            clear HT HR
            go_wp2
            go_roundw
            case rel => exact ⟨k + 1, n, A', cap', by omega, by simp, rfl, HW2, (hB.trans (hba.mono zB))⟩
            case measure => simp [intOf]; omega
      | false =>
        rcases Int.lt_or_le 0 x with hx | hx
        · have hd : decide (x < 0) = false := decide_eq_false (by omega)
          have hx0' : (x == 0) = false := beq_eq_false_iff_ne.2 (by omega)
          have HSG : sgn false x = true := by rw [sgn_false]; exact decide_eq_true hx
          have HT2 : Hid (rowV part false (l.take (k + 1)) = rowAdd (rowV part false (l.take k)) (part x.natAbs) y) := by show _ = _; rw [HT.out, if_pos HSG]
          have HN : Hid (0 < x.natAbs ∧ x.natAbs ≤ 9223372036854775808) := by have := HOX.out; exact ⟨by omega, by omega⟩
          clear HT HR
          go_wp2
          obtain ⟨vB, hvB⟩ : ∃ b, wr.heap.size = b := ⟨_, rfl⟩
          have aX4 := aX.drew
          have HB4 : Hid (Below w.heap.size w ((wr.alloc (.cells #[.int .i64 x, .int .u64 y] 48)).drew)) := (hB.trans (hba.mono zB)).drew
          have HRW4 : Hid (RdP ((wr.alloc (.cells #[.int .i64 x, .int .u64 y] 48)).drew) A' (rowV part false (l.take k))) := (HW.out.2.below hba).below (Below.refl _ _).drew
          rw [hvB] at aX4
          simp only [hvB]
          obtain ⟨W4, hW4⟩ : ∃ W, (wr.alloc (.cells #[.int .i64 x, .int .u64 y] 48)).drew = W := ⟨_, rfl⟩
          rw [hW4] at aX4 HB4 HRW4
          haveI : Nonempty (Held fun W => At W vB #[.int .i64 x, .int .u64 y] 48) := ⟨⟨W4, aX4⟩⟩
          have hfar := fun z : Held fun W => At W vB #[.int .i64 x, .int .u64 y] 48 => z.held.two
          refine wp_region_noPanic ?_
          refine wp_region_held_drew (S := HeldS fun W => At W vB #[.int .i64 x, .int .u64 y] 48) (by kernel_rfl) (HeldS.mk' (hW4 ▸ aX4)) (fun hHeld => ?_)
          rw [hW4] at hHeld ⊢
          clear hW4 aX hba hvB c1 c2 hB zB
          refine wpAnyH_run0 [true, true, true, true, false, false, true, true] 4 (by kernel_rfl) (by kernel_rfl) (fun _ _ _ _ h => h) (by kernel_rfl) hHeld ?_
          simp only [runOps_true, runOps_false, runOps_nil]
          repeat (first | go_big_quiet_skip | (go_big_quiet_want; go_big_quiet_op; go_big_quiet_on))
          refine wpQuiet_nil ?_
          refine wpAnyH_ready (rs := [4]) (by kernel_rfl) (by simp) ?_
          refine AllReadyH.cons rfl (fun K hK => ?_) AllReadyH.nil
          go_simp
          go_wp2_with (go_at_call 18; refine (rsize_any x W4 HOX.out.1.1 HOX.out.1.2).mono ?_; rintro e w5 ⟨rfl, rfl⟩)
          refine hK.out _ _ ?_ (fun hHeld => ?_)
          clear hK K
          · exact HeldS.mk' aX4
          refine wpAnyH_ready (rs := [5]) (by kernel_rfl) (by simp) ?_
          refine AllReadyH.cons rfl (fun K hK => ?_) AllReadyH.nil
          go_simp
          go_wp2_with (go_at_call 19; refine (HPA.out W4 HB4.out x.natAbs HN.out.1 HN.out.2).mono ?_; rintro e w5 ⟨rfl, hb⟩)
          refine hK.out _ _ ?_ (fun hHeld => ?_)
          clear hK K
          · exact HeldS.mk' (aX4.below hb)
          replace aX4 := aX4.below hb
          have HB5 := Lib.hid (keep1 HB4.out hb)
          have HRW5 := Lib.hid (HRW4.out.below hb)
          clear hb
          refine wpAnyH_ready (rs := [8]) (by kernel_rfl) (by simp) ?_
          refine AllReadyH.cons rfl (fun K hK => ?_) AllReadyH.nil
          go_simp
          go_wp2_with (go_at_call 81; refine (radd06_any A' n cap' (rowV part false (l.take k)) (part x.natAbs) y w5 HW.out.1 (by have := HLEN.out; have := HW.out.1; omega) HRW5.out HOK.out (HPR.out _ HN.out.1 HN.out.2) HOX.out.2).mono ?_; rintro e w6 ⟨A6, c6, rfl, ho, hb⟩)
          refine hK.out _ _ ?_ (fun hHeld => ?_)
          clear hK K
          · exact HeldS.mk' (aX4.below hb)
          have HB6 := Lib.hid (keep1 HB5.out hb)
          have HR6 := Lib.hid ho.rd
          rw [← HT2.out] at HR6 ⊢
          clear hb ho aX4
          refine wpAnyH_run0 [false, false, false, false, false, false, false, false, false, true] 0 (by kernel_rfl) (by kernel_rfl) (fun _ _ _ _ h => h) (by kernel_rfl) hHeld ?_
          simp only [runOps_true, runOps_false, runOps_nil]
          repeat (first | go_big_quiet_skip | (go_big_quiet_want; go_big_quiet_op; go_big_quiet_on))
          refine wpQuiet_nil ?_
          refine wpAnyH_done (by kernel_rfl) ?_ _
          refine NoPanic.normal ?_
          clear hfar hHeld
          go_wp2
          go_roundw
          case rel => exact ⟨k + 1, _, A6, c6, by omega, by simp, rfl, ⟨rfl, HR6.out⟩, HB6.out⟩
          case measure => simp [intOf]; omega
        · have HSG : sgn false x = false := by rw [sgn_false]; exact decide_eq_false (by omega)
          by_cases h0 : x = 0
          · subst h0
            have HT2 : Hid (rowV part false (l.take (k + 1)) = rowV part false (l.take k)) := by show _ = _; rw [HT.out, if_neg (by rw [HSG]; decide)]
            have HW2 : Hid ((rowV part false (l.take (k + 1))).length = n ∧ RdP (wr.alloc (.cells #[.int .i64 0, .int .u64 y] 48)) A' (rowV part false (l.take (k + 1)))) := ⟨by rw [HT2.out]; exact HW.out.1, by rw [HT2.out]; exact HW.out.2.below hba⟩
            clear HT HR
            go_wp2
            go_roundw
            case rel => exact ⟨k + 1, n, A', cap', by omega, by simp, rfl, HW2, (hB.trans (hba.mono zB))⟩
            case measure => simp [intOf]; omega
          · have hx0' : (x == 0) = false := beq_eq_false_iff_ne.2 h0
            have hd : decide (x < 0) = true := decide_eq_true (by omega)
            have HT2 : Hid (rowV part false (l.take (k + 1)) = rowV part false (l.take k)) := by show _ = _; rw [HT.out, if_neg (by rw [HSG]; decide)]
            have HW2 : Hid ((rowV part false (l.take (k + 1))).length = n ∧ RdP (wr.alloc (.cells #[.int .i64 x, .int .u64 y] 48)) A' (rowV part false (l.take (k + 1)))) := ⟨by rw [HT2.out]; exact HW.out.1, by rw [HT2.out]; exact HW.out.2.below hba⟩
            clear HT HR
            go_wp2
            go_roundw
            case rel => exact ⟨k + 1, n, A', cap', by omega, by simp, rfl, HW2, (hB.trans (hba.mono zB))⟩
            case measure => simp [intOf]; omega
    · obtain rfl : k = len := by omega
      have h1 := HW.out
      rw [List.take_of_length_le (by have := HL.out; omega)] at h1
      have HE : Hid (RowR (rowV part below l) w (.returned (.slice A' n cap')) wr) := ⟨A', cap', by rw [h1.1], h1.2, hB⟩
      clear HW HR h1
      go_wp2
      go_ret
      exact HE.out
end Go.Proofs.YtondkkhagbcadaaGreat
