/- Contracts of the document's hdr: Quantile, Like, Rank. -/
import Derived.Test.YtnkkdciecjhpoaaDoorProg
import Derived.Test.YtnkkdciecjhpoaaDoorExact13
import Derived.Test.YtnkkdciecjhpoaaDoorVEnds
import Derived.Test.YtnkkdciecjhpoaaDoorShare
namespace Go.Proofs.YtnkkdciecjhpoaaDoor
open Go.RowKit

/-- What stands for the value that a part asks for. -/
def quantD (stand : Int → Int) (l : List (Int × Int)) (a d : Int) : Int := if placeE a d (sumP l) = 0 then min (max (stand ((exactV l (placeT a d (sumP l))).getD 0)) (eLow l)) (eHigh l) else 0
theorem placeE_nn (a d n : Int) : 0 ≤ placeE a d n := by unfold placeE; (repeat' split) <;> omega
set_option maxHeartbeats 1000000 in
theorem rquant15_any (m : Nat) (lows reps : Value) (digits side most : Int) (A : Option Addr) (len cap : Nat) (stand : Int → Int) (l : List (Int × Int)) (a d : Int) (w : World) (h : BinsAt w m lows reps digits side most A len cap) (hS : StandOk w m stand) (hl : l.length = len) (hm : len ≤ 1000000) (hR : RdP w A l) (hok : okP l) (hp : ∀ x ∈ l, 0 < x.2) (hs : sumP l ≤ 9223372036854775807)
    (h1 : 0 ≤ a) (h2 : a < 18446744073709551616) (h3 : 0 ≤ d) (h4 : d < 18446744073709551616) :
    Calls Tryd.prog 28 #[.pointer (some ⟨m, 0, none⟩), .agg #[.int .u64 a, .int .u64 d]] w fun e w' => e = .returned (.tuple #[.int .i64 (quantD stand l a d), .int .i64 (placeE a d (sumP l))]) ∧ Below w.heap.size w w' := by
  have hs0 := (vsum_filter hp fun _ => true).1
  rw [List.filter_eq_self.2 (fun _ _ => rfl)] at hs0
  have HBT := Lib.hid fun W (hb : Below w.heap.size w W) => btotal_any m lows reps digits side most A len cap l W (h.below hb) hl hm (hR.below hb) hp hs
  have HPL := Lib.hid fun W => rplace_any a d (sumP l) W h1 h2 h3 h4 hs0 (by omega)
  have HEX := Lib.hid fun W t (hb : Below w.heap.size w W) => exact_any A len cap l t W hl hm (hR.below hb) hp hs
  have HEN := Lib.hid fun W (hb : Below w.heap.size w W) => vends_told A len cap l W hl (by omega) (hR.below hb)
  have HST := Lib.hid hS
  have HXR : Hid (∀ t, -9223372036854775808 ≤ (exactV l t).getD 0 ∧ (exactV l t).getD 0 ≤ 9223372036854775807) := fun t => by
    cases he : exactV l t with
    | none => simp
    | some x => obtain ⟨v, hv, rfl⟩ := (exactV_is he).mem; exact (hok v hv).1
  have HQ : Hid (quantD stand l a d = if placeE a d (sumP l) = 0 then min (max (stand ((exactV l (placeT a d (sumP l))).getD 0)) (eLow l)) (eHigh l) else 0) := rfl
  have HE0 := Lib.hid (placeE_nn a d (sumP l))
  obtain ⟨er, her⟩ : ∃ t, placeE a d (sumP l) = t := ⟨_, rfl⟩
  obtain ⟨t, ht⟩ : ∃ t, placeT a d (sumP l) = t := ⟨_, rfl⟩
  obtain ⟨tot, htot⟩ : ∃ t, sumP l = t := ⟨_, rfl⟩
  rw [her, ht] at HQ
  rw [her] at HE0 ⊢
  simp only [her, ht] at HPL
  simp only [htot] at HBT HPL
  obtain ⟨qv, hqv⟩ : ∃ q, quantD stand l a d = q := ⟨_, rfl⟩
  rw [hqv] at HQ ⊢
  clear hqv
  have s1 := h
  clear h hS hl hR hok hp hs hs0 her ht htot h1 h2 h3 h4
  go_enter Tryd.func28, Tryd.ntmps28
  have hb0 : Below w.heap.size w (w.alloc (.cells #[.int .u64 a, .int .u64 d] 25)) := (Below.refl _ _).alloc (Nat.le_refl _) _
  have r2 := At.new' w #[.int .u64 a, .int .u64 d] 25 rfl
  go_wp2
  have HB0 := Lib.hid hb0
  obtain ⟨rb, hrb⟩ : ∃ r, w.heap.size = r := ⟨_, rfl⟩
  obtain ⟨W1, hW1⟩ : ∃ W1, w.alloc (.cells #[.int .u64 a, .int .u64 d] 25) = W1 := ⟨_, rfl⟩
  rw [hW1] at hb0 r2 HB0 ⊢
  rw [hrb] at r2
  try rw [hrb]
  have hqd := hb0
  clear hW1 hrb hqd
  have hfar1 := fun x : Far W1 => (x.at r2).two
  refine wp_region_far (by kernel_rfl) (by kernel_rfl) ?_
  repeat (first | go_big_quiet_skip | (go_big_quiet_want; go_big_quiet_op; first | go_big_quiet_on | (apply Exists.intro; refine ⟨fun _ => ?_, ?_⟩; (focus (first | (refine far_of (HBT.out _ (keep1 HB0.out (Far.below _)))) | (refine far_of (HPL.out _)))); go_big_quiet_on)))
  refine wpQuiet_nil ?_
  rintro _ ⟨xq, rfl⟩
  clear hfar1
  have HB1 := Lib.hid (keep1 HB0.out xq.below)
  obtain ⟨W2, hW2⟩ : ∃ W, xq.far = W := ⟨_, rfl⟩
  rw [hW2] at HB1 ⊢
  clear hW2 HB0 hb0 r2 HBT HPL
  by_cases hE : er = 0
  · subst hE
    have HQ2 : Hid (qv = min (max (stand ((exactV l t).getD 0)) (eLow l)) (eHigh l)) := by show _ = _; rw [HQ.out, if_pos rfl]
    have s2 := s1.below HB1.out
    have f2 := At.six s2
    have l2 := At.lt s2
    clear HQ HE0
    go_wp2_with fail
    refine (HEX.out _ t HB1.out).mono ?_
    rintro e w3 ⟨rfl, hb⟩
    have HB3 := Lib.hid (keep1 HB1.out hb)
    replace s2 := s2.below hb
    replace f2 := At.six s2
    replace l2 := At.lt s2
    clear hb HB1
    go_wp2_with fail
    refine (HEN.out _ HB3.out).mono ?_
    rintro e w4 ⟨rfl, hb⟩
    have HB4 := Lib.hid (keep1 HB3.out hb)
    have HX := Lib.hid (HXR.out t)
    obtain ⟨x, hx⟩ : ∃ x, (exactV l t).getD 0 = x := ⟨_, rfl⟩
    rw [hx] at HX HQ2
    simp only [hx]
    obtain ⟨el, hel⟩ : ∃ x, eLow l = x := ⟨_, rfl⟩
    obtain ⟨eh, heh⟩ : ∃ x, eHigh l = x := ⟨_, rfl⟩
    simp only [hel, heh] at HQ2 ⊢
    clear hb HB3 s2 f2 l2 hx hel heh
    go_wp2_with fail
    refine (HST.out _ HB4.out x HX.out.1 HX.out.2).mono ?_
    rintro e w5 ⟨rfl, hb⟩
    have HB5 := Lib.hid (keep1 HB4.out hb)
    clear hb HB4
    go_wp2
    go_ret2
    exact ⟨by rw [HQ2.out]; first | rfl | simp, HB5.out⟩
  · have HQ2 : Hid (qv = 0) := by show _ = _; rw [HQ.out, if_neg hE]
    have hne : decide (0 < er) = true := decide_eq_true (by have := HE0.out; omega)
    clear HQ HE0
    go_wp2
    go_ret2
    exact ⟨by rw [HQ2.out]; first | rfl | simp, HB1.out⟩
/-- The least and the greatest value that count as a value does. -/
def likeLo (g : Nat) (x : Int) : Int := if x = 0 then 0 else if 0 < x then (loN g x.natAbs : Int) else -(hiN g x.natAbs : Int)
def likeHi (g : Nat) (x : Int) : Int := if x = 0 then 0 else if 0 < x then min (hiN g x.natAbs : Int) 9223372036854775807 else -(loN g x.natAbs : Int)
theorem rlike15_any (d x : Int) (w : World) (h1 : 1 ≤ d) (h4 : d ≤ 4) (hx1 : -9223372036854775808 ≤ x) (hx2 : x ≤ 9223372036854775807) :
    Calls Tryd.prog 19 #[.int .i64 d, .int .i64 x] w fun e w' => e = .returned (.tuple #[.int .i64 (likeLo (gOf d) x), .int .i64 (likeHi (gOf d) x)]) ∧ Below w.heap.size w w' := by
  by_cases hx0 : x = 0
  · subst hx0
    go_enter Tryd.func19, Tryd.ntmps19
    go_wp2
    go_ret2
    exact ⟨rfl, Below.refl _ _⟩
  · have hx0' : (x == 0) = false := beq_eq_false_iff_ne.2 hx0
    have hn0 : 0 < x.natAbs := by omega
    have hn1 : x.natAbs ≤ 9223372036854775808 := by omega
    have HS := Lib.hid (rsize_any x w hx1 hx2)
    have HX := Lib.hid (rrange_any d x.natAbs w h1 h4 hn0 hn1)
    have hlh := lo_le_hi (g := gOf d) hn0 hn1
    have hhi := hi_le (gOf d) x.natAbs
    have hlo0 := lo_pos (g := gOf d) hn0
    have hlm := lo_le (gOf d) x.natAbs
    have HV : Hid (likeLo (gOf d) x = (if 0 < x then (loN (gOf d) x.natAbs : Int) else -(hiN (gOf d) x.natAbs : Int)) ∧ likeHi (gOf d) x = (if 0 < x then min (hiN (gOf d) x.natAbs : Int) 9223372036854775807 else -(loN (gOf d) x.natAbs : Int))) := by
      show _ ∧ _
      unfold likeLo likeHi
      rw [if_neg hx0, if_neg hx0]
      exact ⟨rfl, rfl⟩
    rw [HV.out.1, HV.out.2]
    obtain ⟨lo, hlo⟩ : ∃ l, loN (gOf d) x.natAbs = l := ⟨_, rfl⟩
    obtain ⟨hi, hhie⟩ : ∃ l, hiN (gOf d) x.natAbs = l := ⟨_, rfl⟩
    obtain ⟨mg, hmg⟩ : ∃ l, x.natAbs = l := ⟨_, rfl⟩
    rw [hlo, hhie] at HX hlh ⊢
    rw [hhie] at hhi
    rw [hlo] at hlo0 hlm
    rw [hmg] at HX HS hlm
    have hmx : 0 < x → (mg : Int) = x := fun h => by omega
    clear h1 h4 hn0 hn1 hlo hhie hmg HV
    by_cases hp : 0 < x
    · have hd1 : decide (0 < x) = true := decide_eq_true hp
      rw [if_pos hp, if_pos hp]
      have hmx2 := hmx hp
      have HW : Hid (wrap64 (lo : Int) = lo ∧ wrap64 (min (hi : Int) 9223372036854775807) = min (hi : Int) 9223372036854775807) := by show _ ∧ _; unfold wrap64; omega
      clear hp hx0 hx1 hx2 hmx hmx2
      go_enter Tryd.func19, Tryd.ntmps19
      go_wp2_with fail
      refine HS.out.mono ?_
      rintro e w1 ⟨rfl, rfl⟩
      go_wp2_with fail
      refine HX.out.mono ?_
      rintro e w2 ⟨rfl, hb⟩
      clear HX HS
      go_wp2
      go_ret2
      exact ⟨by first | rfl | (rw [HW.out.1, HW.out.2]; rfl) | (rw [HW.out.1]; rfl) | (rw [HW.out.2]; rfl), hb⟩
    · have hd1 : decide (0 < x) = false := decide_eq_false hp
      rw [if_neg hp, if_neg hp]
      clear hp hx0 hx1 hx2 hmx
      by_cases hr2 : hi = 9223372036854775808
      · have hrd : ((hi : Int) == 9223372036854775808) = true := by rw [hr2]; rfl
        have HW : Hid (wrap64 (wrap64 (-wrap64 (IntKind.u64.wrap ((lo : Int) - 1))) - 1) = -(lo : Int) ∧ -(hi : Int) = -9223372036854775808) := by show _ ∧ _; simp only [IntKind.wrap_u64]; unfold wrap64; omega
        clear hr2
        go_enter Tryd.func19, Tryd.ntmps19
        go_wp2_with fail
        refine HS.out.mono ?_
        rintro e w1 ⟨rfl, rfl⟩
        go_wp2_with fail
        refine HX.out.mono ?_
        rintro e w2 ⟨rfl, hb⟩
        clear HX HS
        go_wp2
        go_ret2
        exact ⟨by rw [HW.out.2]; first | rfl | (rw [show -((lo : Int) - 1) - 1 = -(lo : Int) by omega]; rfl) | (rw [HW.out.1]; rfl), hb⟩
      · have hrd : ((hi : Int) == 9223372036854775808) = false := beq_eq_false_iff_ne.2 (by omega)
        have HW : Hid (wrap64 (-wrap64 (lo : Int)) = -(lo : Int) ∧ wrap64 (-wrap64 (hi : Int)) = -(hi : Int)) := by show _ ∧ _; unfold wrap64; omega
        clear hr2
        go_enter Tryd.func19, Tryd.ntmps19
        go_wp2_with fail
        refine HS.out.mono ?_
        rintro e w1 ⟨rfl, rfl⟩
        go_wp2_with fail
        refine HX.out.mono ?_
        rintro e w2 ⟨rfl, hb⟩
        clear HX HS
        go_wp2
        go_ret2
        exact ⟨by first | rfl | (rw [HW.out.1, HW.out.2]; rfl) | (rw [HW.out.1]; rfl) | (rw [HW.out.2]; rfl), hb⟩

def rankD1 (g : Nat) (l : List (Int × Int)) (x : Int) : Int := if x = 0 then upV l 0 else lessV l (likeLo g x)
def rankD2 (g : Nat) (l : List (Int × Int)) (x : Int) : Int := upV l (likeHi g x)
set_option maxHeartbeats 1000000 in
theorem rrank15_any (m : Nat) (lows reps : Value) (d side most : Int) (A : Option Addr) (len cap : Nat) (l : List (Int × Int)) (x : Int) (w : World) (h : BinsAt w m lows reps d side most A len cap) (h1 : 1 ≤ d) (h4 : d ≤ 4) (hl : l.length = len) (hm : len ≤ 1000000) (hR : RdP w A l) (hp : ∀ x ∈ l, 0 < x.2) (hs : sumP l ≤ 9223372036854775807) (hx1 : -9223372036854775808 ≤ x) (hx2 : x ≤ 9223372036854775807) :
    Calls Tryd.prog 30 #[.pointer (some ⟨m, 0, none⟩), .int .i64 x] w fun e w' => e = .returned (.tuple #[.int .u64 (rankD1 (gOf d) l x), .int .u64 (rankD2 (gOf d) l x)]) ∧ Below w.heap.size w w' := by
  have HLK := Lib.hid (rlike15_any d x w h1 h4 hx1 hx2)
  have HUP := Lib.hid fun W y (hb : Below w.heap.size w W) => up_any A len cap l y W hl (by omega) (hR.below hb) hp hs
  have HR := Lib.hid hR
  have H := Lib.hid hp
  have HS := Lib.hid hs
  have HL := Lib.hid hl
  have HV : Hid (rankD1 (gOf d) l x = (if x = 0 then upV l 0 else lessV l (likeLo (gOf d) x)) ∧ rankD2 (gOf d) l x = upV l (likeHi (gOf d) x)) := ⟨rfl, rfl⟩
  obtain ⟨lo, hlo⟩ : ∃ q, likeLo (gOf d) x = q := ⟨_, rfl⟩
  obtain ⟨hi, hhi⟩ : ∃ q, likeHi (gOf d) x = q := ⟨_, rfl⟩
  rw [hlo, hhi] at HLK HV
  obtain ⟨r1, hr1⟩ : ∃ q, rankD1 (gOf d) l x = q := ⟨_, rfl⟩
  obtain ⟨r2, hr2⟩ : ∃ q, rankD2 (gOf d) l x = q := ⟨_, rfl⟩
  rw [hr1, hr2] at HV ⊢
  have s1 := h
  have f1 := At.six h
  have l1 := At.lt h
  clear h h1 h4 hl hR hp hs hlo hhi hr1 hr2
  go_enter Tryd.func30, Tryd.ntmps30
  go_wp2_with fail
  refine HLK.out.mono ?_
  rintro e w1 ⟨rfl, hb1⟩
  replace s1 := s1.below hb1
  replace f1 := At.six s1
  replace l1 := At.lt s1
  have zb1 := hb1.size
  clear HLK
  go_wp2
  clear f1
  have HS1 := Lib.hid s1
  go_loopw [8, 10, 25] (fun n _ i wr => ∃ k : Nat, ∃ p : Int, k ≤ len ∧ i = .int .i64 k ∧ n = .int .u64 p ∧ 0 ≤ p ∧ Hid (p = lessV (l.take k) lo) ∧ Hid (Below w1.heap.size w1 wr)) (fun _ _ i _ => len - (intOf i).toNat)
  case atStart => exact ⟨0, 0, by omega, rfl, rfl, by omega, rfl, Below.refl _ _⟩
  case round =>
    obtain ⟨k, p, hk, rfl, rfl, hp, HP, HB⟩ := hrel
    clear s1 l1
    have zB := HB.out.size
    by_cases hlt : k < len
    · obtain ⟨g, o, rfl, hg, c1, c2⟩ := ((HR.out.below hb1).below HB.out).at k (by have := HL.out; omega)
      have H1 := Lib.hid (sumP_filter_take l (fun v => decide (v.1 < lo)) k (by have := HL.out; omega))
      have H2 := Lib.hid (vsum_filter (l := l.take (k + 1)) (fun x hx => H.out x (List.mem_of_mem_take hx)) (fun v => decide (v.1 < lo))).2
      have H3 := Lib.hid (vsum_take H.out (k + 1)).2
      have H4 := Lib.hid (H.out _ (List.getElem_mem (show k < l.length by have := HL.out; omega)))
      obtain ⟨⟨y1, y2⟩, hy⟩ : ∃ y, l[k]'(by have := HL.out; omega) = y := ⟨_, rfl⟩
      rw [hy] at c1 c2 H1 H4
      clear hy HR
      dsimp only at c1 c2 H1 H4
      by_cases ha : y1 < lo
      · rw [if_pos (decide_eq_true ha)] at H1
        have wa : IntKind.u64.wrap (p + y2) = p + y2 := by have h1 := H1.out; have h2 := H2.out; have h3 := HP.out; have h4 := H3.out; have h5 := HS.out; have h6 := H4.out; unfold lessV at h3; simp only [IntKind.wrap_u64]; omega
        go_wp2
        go_roundw
        case rel => exact ⟨k + 1, p + y2, by omega, by simp, rfl, by have := H4.out; omega, by have h1 := H1.out; have h2 := HP.out; show _ = _; unfold lessV at h2 ⊢; omega, HB.out.alloc (by omega) _⟩
        case measure => simp [intOf]; omega
      · rw [if_neg (by simpa using ha)] at H1
        go_wp2
        go_roundw
        case rel => exact ⟨k + 1, p, by omega, by simp, rfl, hp, by have h1 := H1.out; have h2 := HP.out; show _ = _; unfold lessV at h2 ⊢; omega, HB.out.alloc (by omega) _⟩
        case measure => simp [intOf]; omega
    · obtain rfl : k = len := by omega
      have h1 := HP.out
      rw [List.take_of_length_le (by have := HL.out; omega)] at h1
      have HP2 := Lib.hid h1
      have HBW := Lib.hid (keep1 hb1 HB.out)
      have s2 := HS1.out.below HB.out
      have f2 := At.six s2
      have l2 := At.lt s2
      clear HR HP h1
      by_cases hx0 : x = 0
      · subst hx0
        have HV2 : Hid (r1 = upV l 0 ∧ r2 = upV l hi) := ⟨by rw [HV.out.1, if_pos rfl], HV.out.2⟩
        go_wp2_with fail
        refine (HUP.out _ 0 HBW.out).mono ?_
        rintro e w3 ⟨rfl, hb⟩
        rw [← HV2.out.1]
        have HB3 := Lib.hid (keep1 HBW.out hb)
        replace s2 := s2.below hb
        replace f2 := At.six s2
        replace l2 := At.lt s2
        clear hb HBW
        go_wp2_with fail
        refine (HUP.out _ hi HB3.out).mono ?_
        rintro e w4 ⟨rfl, hb⟩
        rw [← HV2.out.2]
        have HB4 := Lib.hid (keep1 HB3.out hb)
        clear hb HB3 f2 l2 s2
        go_wp2
        go_ret2
        exact ⟨rfl, HB4.out⟩
      · have hx0' : (x == 0) = false := beq_eq_false_iff_ne.2 hx0
        have HV2 : Hid (r1 = p ∧ r2 = upV l hi) := ⟨by rw [HV.out.1, if_neg hx0, HP2.out], HV.out.2⟩
        clear hx0
        go_wp2_with fail
        refine (HUP.out _ hi HBW.out).mono ?_
        rintro e w4 ⟨rfl, hb⟩
        rw [← HV2.out.2]
        have HB4 := Lib.hid (keep1 HBW.out hb)
        clear hb HBW f2 l2 s2
        go_wp2
        go_ret2
        exact ⟨by rw [HV2.out.1]; rfl, HB4.out⟩
end Go.Proofs.YtnkkdciecjhpoaaDoor
