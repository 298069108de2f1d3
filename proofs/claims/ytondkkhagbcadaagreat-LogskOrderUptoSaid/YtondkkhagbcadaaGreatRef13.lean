/- Contracts of the document's bins: New, Kept, Find. -/
import Derived.Test.YtondkkhagbcadaaGreatProg
import Derived.Test.YtondkkhagbcadaaGreatBn
import Derived.Test.YtondkkhagbcadaaGreatExact13
namespace Go.Proofs.YtondkkhagbcadaaGreat
open Go.RowKit

/-- What Kept answers. -/
def KeptR (ps : List (Int × Int)) (s : Bool) (most : Int) (w : World) (e : Ending) (w' : World) : Prop :=
  ∃ A' c', e = .returned (.tuple #[.slice A' (keptP s most ps).length c', .int .u64 (sumP ps - sumP (keptP s most ps))]) ∧ RdP w' A' (keptP s most ps) ∧ Below w.heap.size w w'
set_option maxRecDepth 100000 in
set_option maxHeartbeats 2000000 in
theorem bkept_any (m : Nat) (lows reps : Value) (digits : Int) (s : Bool) (most : Int) (A : Option Addr) (len cap : Nat) (part : Nat → Int) (l : List (Int × Int)) (below : Bool) (w : World) (h : BinsAt w m lows reps digits (sideZ s) most A len cap) (hP : PartOk w m part) (hl : l.length = len) (hm : len ≤ 1000000) (hR : RdP w A l) (hok : okP l)
    (hp : ∀ v ∈ l, 0 < v.2) (hs : sumP l ≤ 9223372036854775807) (hpr : ∀ a, 0 < a → a ≤ 9223372036854775808 → -9223372036854775808 ≤ part a ∧ part a ≤ 9223372036854775807) (hmo : 1 ≤ most ∧ most ≤ 4096) :
    Calls Tryz.prog 46 #[.pointer (some ⟨m, 0, none⟩), .bool below] w fun e w' => KeptR (rowV part below l) s most w e w' := by
  have HRW := Lib.hid (brow_any m lows reps digits (sideZ s) most A len cap part l below w h hP hl hm hR hok hpr)
  have hg := rowV_gd (part := part) (below := below) hp (by omega)
  have ho := rowV_ok (part := part) (below := below) hpr hok
  have hln := rowV_len (part := part) (below := below) (l := l)
  have hsm := rowV_sum (part := part) (below := below) hp (by omega)
  have hs2 := (vsum_filter hp fun v => sgn below v.1).2
  obtain ⟨ps, hps⟩ : ∃ ps, rowV part below l = ps := ⟨_, rfl⟩
  rw [hps] at HRW hg ho hln hsm ⊢
  have HG : Hid (Gd ps ∧ okP ps ∧ ps.length ≤ 1000000 ∧ sumP ps ≤ 9223372036854775807) := ⟨hg, ho, by omega, by omega⟩
  obtain ⟨n, hn⟩ : ∃ n, ps.length = n := ⟨_, rfl⟩
  have HNL := Lib.hid hn
  have s1 : At w m _ _ := h
  have HMO := Lib.hid hmo
  unfold RowR at HRW
  rw [hn] at HRW
  clear h hP hl hm hR hok hp hs hpr hg ho hln hsm hs2 hps hn hmo
  by_cases hn0 : n = 0
  · subst hn0
    obtain rfl : ps = [] := List.eq_nil_of_length_eq_zero HNL.out
    go_enter Tryz.func46, Tryz.ntmps46
    go_wp2_with fail
    refine HRW.out.mono ?_
    rintro e w1 ⟨A1, c1, rfl, hr, hb⟩
    have HB := Lib.hid hb
    clear hr hb HRW s1
    go_wp2
    go_ret2
    exact ⟨none, 0, rfl, Rd.nil _ _, HB.out⟩
  · have hn1 : ((n : Int) == 0) = false := beq_eq_false_iff_ne.2 (by omega)
    clear hn0
    cases s
    all_goals
      unfold sideZ at s1
      dsimp only at s1
      go_enter Tryz.func46, Tryz.ntmps46
      go_wp2_with fail
      refine HRW.out.mono ?_
      rintro e w1 ⟨A1, c1, rfl, hr, hb⟩
      have s2 := s1.below hb
      have f2 := At.six s2
      have l2 := s2.lt
      have HB1 := Lib.hid hb
      have HR1 := Lib.hid hr
      clear hr hb HRW s1
    · have hba : Below w1.heap.size w1 (w1.alloc (.cells #[.int .i64 most, .slice A1 n c1] 129)) := (Below.refl _ _).alloc (Nat.le_refl _) _
      have ac := At.new w1 #[.int .i64 most, .slice A1 n c1] 129
      have HD : Hid (Hi.DocD (w1.alloc (.cells #[.int .i64 most, .slice A1 n c1] 129)) w1.heap.size most ps) := ⟨A1, c1, by rw [HNL.out]; exact ac, HR1.out.below hba⟩
      have HB2 := Lib.hid (keep1 HB1.out hba)
      have K1 := Lib.hid (Hi.dlkept_d _ most ps _ HD.out (by have := HG.out; omega) HG.out.1 HG.out.2.1 HMO.out)
      have K2 := Lib.hid fun W hb => Hi.dllost_d _ most ps W (Hi.DocD.below HD.out hb) (by have := HG.out; omega) HG.out.1 HG.out.2.1 HG.out.2.2.2 HMO.out
      clear hba ac HR1 HB1
      go_wp2_with fail
      refine K1.out.mono ?_
      rintro e w3 ⟨A3, c3, rfl, hO, hb⟩
      have HB3 := Lib.hid (keep1 HB2.out hb)
      have HR3 := Lib.hid hO.rd
      have HK3 := Lib.hid (K2.out w3 hb)
      clear hb hO K1 K2 HB2 f2 l2 s2
      go_wp2_with fail
      refine HK3.out.mono ?_
      rintro e w4 ⟨rfl, hb⟩
      have HF : Hid (KeptR ps false most w (.returned (.tuple #[.slice A3 (keptP false most ps).length c3, .int .u64 (sumP ps - sumP (keptP false most ps))])) w4) := ⟨A3, c3, rfl, HR3.out.below hb, keep1 HB3.out hb⟩
      clear hb HK3 HB3 HR3
      generalize sumP ps - sumP (keptP false most ps) = v at HF ⊢
      generalize (keptP false most ps).length = v2 at HF ⊢
      go_wp2
      go_ret2
      exact HF.out
    · have hba : Below w1.heap.size w1 (w1.alloc (.cells #[.int .i64 most, .slice A1 n c1] 131)) := (Below.refl _ _).alloc (Nat.le_refl _) _
      have ac := At.new w1 #[.int .i64 most, .slice A1 n c1] 131
      have HD : Hid (Lo.DocD (w1.alloc (.cells #[.int .i64 most, .slice A1 n c1] 131)) w1.heap.size most ps) := ⟨A1, c1, by rw [HNL.out]; exact ac, HR1.out.below hba⟩
      have HB2 := Lib.hid (keep1 HB1.out hba)
      have K1 := Lib.hid (Lo.dlkept_d _ most ps _ HD.out (by have := HG.out; omega) HG.out.1 HG.out.2.1 HMO.out)
      have K2 := Lib.hid fun W hb => Lo.dllost_d _ most ps W (Lo.DocD.below HD.out hb) (by have := HG.out; omega) HG.out.1 HG.out.2.1 HG.out.2.2.2 HMO.out
      clear hba ac HR1 HB1
      go_wp2_with fail
      refine K1.out.mono ?_
      rintro e w3 ⟨A3, c3, rfl, hO, hb⟩
      have HB3 := Lib.hid (keep1 HB2.out hb)
      have HR3 := Lib.hid hO.rd
      have HK3 := Lib.hid (K2.out w3 hb)
      clear hb hO K1 K2 HB2 f2 l2 s2
      go_wp2_with fail
      refine HK3.out.mono ?_
      rintro e w4 ⟨rfl, hb⟩
      have HF : Hid (KeptR ps true most w (.returned (.tuple #[.slice A3 (keptP true most ps).length c3, .int .u64 (sumP ps - sumP (keptP true most ps))])) w4) := ⟨A3, c3, rfl, HR3.out.below hb, keep1 HB3.out hb⟩
      clear hb HK3 HB3 HR3
      generalize sumP ps - sumP (keptP true most ps) = v at HF ⊢
      generalize (keptP true most ps).length = v2 at HF ⊢
      go_wp2
      go_ret2
      exact HF.out
/-- What Find answers. -/
def docFind13 (part : Nat → Int) (stand : Int → Int) (s : Bool) (most : Int) (l : List (Int × Int)) (t : Int) : Option Int :=
  match exactV l t with
  | none => none
  | some x => if x ≠ 0 ∧ cnt (keptP s most (rowV part (decide (x < 0)) l)) (part x.natAbs) = 0 then none else some (stand x)
set_option maxRecDepth 100000 in
set_option maxHeartbeats 2000000 in
theorem bdfind_any (m : Nat) (lows reps : Value) (digits : Int) (s : Bool) (most : Int) (A : Option Addr) (len cap : Nat) (part : Nat → Int) (stand : Int → Int) (l : List (Int × Int)) (t : Int) (w : World) (h : BinsAt w m lows reps digits (sideZ s) most A len cap) (hP : PartOk w m part) (hS : StandOk w m stand) (hl : l.length = len) (hm : len ≤ 1000000) (hR : RdP w A l) (hok : okP l)
    (hp : ∀ v ∈ l, 0 < v.2) (hs : sumP l ≤ 9223372036854775807) (hpr : ∀ a, 0 < a → a ≤ 9223372036854775808 → -9223372036854775808 ≤ part a ∧ part a ≤ 9223372036854775807) (hmo : 1 ≤ most ∧ most ≤ 4096) :
    Calls Tryz.prog 44 #[.pointer (some ⟨m, 0, none⟩), .int .u64 t] w fun e w' => e = .returned (optI (docFind13 part stand s most l t)) ∧ Below w.heap.size w w' := by
  have HEX := Lib.hid (exact_any A len cap l t w hl hm hR hp hs)
  have HST := Lib.hid fun (x : Int) (h1 : -9223372036854775808 ≤ x) (h2 : x ≤ 9223372036854775807) W (hb : Below w.heap.size w W) => hS W hb x h1 h2
  have HPT := Lib.hid fun (a : Nat) (h1 : 0 < a) (h2 : a ≤ 9223372036854775808) W (hb : Below w.heap.size w W) => hP W hb a h1 h2
  have HKP := Lib.hid fun (bl : Bool) W (hb : Below w.heap.size w W) => bkept_any m lows reps digits s most A len cap part l bl W (h.below hb) (hP.below hb) hl hm (hR.below hb) hok hp hs hpr hmo
  have HKG := Lib.hid fun (bl : Bool) => (⟨(rowV_gd (part := part) (below := bl) hp (by omega)).filter _, (rowV_ok (part := part) (below := bl) hpr hok).filter _, by have := rowV_len (part := part) (below := bl) (l := l); have := List.length_filter_le (fun x : Int × Int => decide (gap s (endP s (rowV part bl l)) x.1 < most)) (rowV part bl l); show (List.filter _ _).length ≤ 1000000; omega, by
    have h1 := rowV_sum (part := part) (below := bl) hp (by omega)
    have h2 := (vsum_filter hp fun v => sgn bl v.1).2
    have h3 := (sumP_filter_le (rowV_gd (part := part) (below := bl) hp (by omega)).pos fun x => decide (gap s (endP s (rowV part bl l)) x.1 < most)).2
    show sumP (List.filter _ _) ≤ _
    omega⟩ : Gd (keptP s most (rowV part bl l)) ∧ okP (keptP s most (rowV part bl l)) ∧ (keptP s most (rowV part bl l)).length ≤ 1000000 ∧ sumP (keptP s most (rowV part bl l)) ≤ 9223372036854775807)
  have HOK := Lib.hid hok
  have s1 : At w m _ _ := h
  have f1 := At.six s1
  have l1 := s1.lt
  have HE : Hid (docFind13 part stand s most l t = match exactV l t with | none => none | some x => if x ≠ 0 ∧ cnt (keptP s most (rowV part (decide (x < 0)) l)) (part x.natAbs) = 0 then none else some (stand x)) := rfl
  rw [HE.out]
  have HXR : Hid (∀ x, exactV l t = some x → ∃ v ∈ l, v.1 = x) := fun x hx => (exactV_is hx).mem
  obtain ⟨o, ho⟩ : ∃ o, exactV l t = o := ⟨_, rfl⟩
  rw [ho] at HEX HXR ⊢
  clear h hP hS hl hm hR hok hp hs hpr hmo HE ho
  cases o with
  | none =>
    have HX2 : Hid (Calls Tryz.prog 15 #[.slice A len cap, .int .u64 t] w fun e w' => e = .returned (.tuple #[.int .i64 0, .bool false]) ∧ Below w.heap.size w w') := HEX.out
    show Calls _ _ _ _ (fun e w' => e = .returned (.tuple #[.int .i64 0, .bool false]) ∧ _)
    clear HEX
    go_enter Tryz.func44, Tryz.ntmps44
    go_wp2_with fail
    refine HX2.out.mono ?_
    rintro e w1 ⟨rfl, hb⟩
    clear HX2
    go_wp2
    go_ret2
    exact ⟨rfl, hb⟩
  | some x =>
    have HX2 : Hid (Calls Tryz.prog 15 #[.slice A len cap, .int .u64 t] w fun e w' => e = .returned (.tuple #[.int .i64 x, .bool true]) ∧ Below w.heap.size w w') := HEX.out
    have HXB : Hid (-9223372036854775808 ≤ x ∧ x ≤ 9223372036854775807) := by
      obtain ⟨v, hv, rfl⟩ := HXR.out x rfl
      exact (HOK.out v hv).1
    clear HEX HXR
    dsimp only
    by_cases hx0 : x = 0
    · subst hx0
      rw [if_neg (by simp)]
      have HS0 := Lib.hid fun W hb => HST.out 0 (by omega) (by omega) W hb
      obtain ⟨sv, hsv⟩ : ∃ v, stand 0 = v := ⟨_, rfl⟩
      rw [hsv] at HS0 ⊢
      show Calls _ _ _ _ (fun e w' => e = .returned (.tuple #[.int .i64 sv, .bool true]) ∧ _)
      clear HST HPT HKP hsv
      go_enter Tryz.func44, Tryz.ntmps44
      go_wp2_with fail
      refine HX2.out.mono ?_
      rintro e w1 ⟨rfl, hb⟩
      have HB1 := Lib.hid hb
      clear HX2 hb f1 l1 s1
      go_wp2_with fail
      refine (HS0.out w1 HB1.out).mono ?_
      rintro e w2 ⟨rfl, hb⟩
      have HB2 := Lib.hid (keep1 HB1.out hb)
      clear hb HS0
      go_wp2
      go_ret2
      exact ⟨rfl, HB2.out⟩
    · have hx0' : (x == 0) = false := beq_eq_false_iff_ne.2 hx0
      have hx0'' : (x != 0) = true := bne_iff_ne.2 hx0
      have hna : 0 < x.natAbs := by omega
      have HK1 := Lib.hid fun W hb => HKP.out (decide (x < 0)) W hb
      have HG1 := Lib.hid (HKG.out (decide (x < 0)))
      have HSZ := Lib.hid fun W => rsize_any x W HXB.out.1 HXB.out.2
      have HP1 := Lib.hid fun W hb => HPT.out x.natAbs hna (by have := HXB.out; omega) W hb
      have HS1 := Lib.hid fun W hb => HST.out x HXB.out.1 HXB.out.2 W hb
      obtain ⟨bl, hbl⟩ : ∃ b, decide (x < 0) = b := ⟨_, rfl⟩
      rw [hbl] at HK1 HG1 ⊢
      obtain ⟨q, hq⟩ : ∃ q, part x.natAbs = q := ⟨_, rfl⟩
      rw [hq] at HP1 ⊢
      have HQC : Hid (∀ c, cnt (keptP s most (rowV part bl l)) q = c → sumP ((keptP s most (rowV part bl l)).filter fun y => decide (y.1 = q)) % 18446744073709551616 = c) := fun c hc => by
        have h1 := cnt_le_sumP HG1.out.1.pos q
        have h2 := HG1.out.2.2.2
        have e : sumP ((keptP s most (rowV part bl l)).filter fun y => decide (y.1 = q)) = cnt (keptP s most (rowV part bl l)) q := rfl
        have h3 : 0 ≤ cnt (keptP s most (rowV part bl l)) q := (sumP_filter_le HG1.out.1.pos _).1
        rw [e, hc] at *
        omega
      obtain ⟨kp, hkp⟩ : ∃ k, keptP s most (rowV part bl l) = k := ⟨_, rfl⟩
      unfold KeptR at HK1
      rw [hkp] at HK1 HG1 HQC ⊢
      obtain ⟨lost, hlost⟩ : ∃ z, sumP (rowV part bl l) - sumP kp = z := ⟨_, rfl⟩
      rw [hlost] at HK1
      obtain ⟨ax, hax⟩ : ∃ a, x.natAbs = a := ⟨_, rfl⟩
      rw [hax] at HSZ HP1
      obtain ⟨nk, hnk⟩ : ∃ n, kp.length = n := ⟨_, rfl⟩
      have HNK := Lib.hid hnk
      rw [hnk] at HK1
      obtain ⟨sv, hsv⟩ : ∃ v, stand x = v := ⟨_, rfl⟩
      rw [hsv] at HS1 ⊢
      obtain ⟨cc, hcc⟩ : ∃ c, cnt kp q = c := ⟨_, rfl⟩
      have HQ2 := Lib.hid (HQC.out cc hcc)
      rw [hcc]
      clear HST HPT HKP hsv hkp hlost hax hq hna HKG hcc HQC hnk
      by_cases hc0 : cc = 0
      · subst hc0
        rw [if_pos ⟨hx0, rfl⟩]
        show Calls _ _ _ _ (fun e w' => e = .returned (.tuple #[.int .i64 0, .bool false]) ∧ _)
        clear hx0 HS1
        go_enter Tryz.func44, Tryz.ntmps44
        go_wp2_with fail
        refine HX2.out.mono ?_
        rintro e w1 ⟨rfl, hb⟩
        have HB1 := Lib.hid hb
        clear HX2 hb f1 l1 s1
        go_wp2_with fail
        refine (HK1.out w1 HB1.out).mono ?_
        rintro e w2 ⟨A2, c2, rfl, hr, hb⟩
        have HB2 := Lib.hid (keep1 HB1.out hb)
        have HR2 := Lib.hid hr
        clear hb hr HK1 HB1
        go_wp2_with fail
        refine (HSZ.out w2).mono ?_
        rintro e w3 ⟨rfl, rfl⟩
        go_wp2_with fail
        refine (HP1.out w2 HB2.out).mono ?_
        rintro e w4 ⟨rfl, hb⟩
        have HB4 := Lib.hid (keep1 HB2.out hb)
        have HR4 := Lib.hid (HR2.out.below hb)
        clear hb HP1 HSZ HB2 HR2
        go_wp2_with fail
        refine (count_any A2 nk c2 kp q w4 HNK.out (by have := HNK.out; have := HG1.out.2.2.1; omega) HR4.out HG1.out.2.1).mono ?_
        rintro e w5 ⟨rfl, hb⟩
        rw [HQ2.out]
        have HB5 := Lib.hid (keep1 HB4.out hb)
        clear hb HB4 HR4
        go_wp2
        go_ret2
        exact ⟨rfl, HB5.out⟩
      · have hc0' : (cc == 0) = false := beq_eq_false_iff_ne.2 hc0
        rw [if_neg (fun h => hc0 h.2)]
        show Calls _ _ _ _ (fun e w' => e = .returned (.tuple #[.int .i64 sv, .bool true]) ∧ _)
        clear hx0 hc0
        go_enter Tryz.func44, Tryz.ntmps44
        go_wp2_with fail
        refine HX2.out.mono ?_
        rintro e w1 ⟨rfl, hb⟩
        have HB1 := Lib.hid hb
        clear HX2 hb f1 l1 s1
        go_wp2_with fail
        refine (HK1.out w1 HB1.out).mono ?_
        rintro e w2 ⟨A2, c2, rfl, hr, hb⟩
        have HB2 := Lib.hid (keep1 HB1.out hb)
        have HR2 := Lib.hid hr
        clear hb hr HK1 HB1
        go_wp2_with fail
        refine (HSZ.out w2).mono ?_
        rintro e w3 ⟨rfl, rfl⟩
        go_wp2_with fail
        refine (HP1.out w2 HB2.out).mono ?_
        rintro e w4 ⟨rfl, hb⟩
        have HB4 := Lib.hid (keep1 HB2.out hb)
        have HR4 := Lib.hid (HR2.out.below hb)
        clear hb HP1 HSZ HB2 HR2
        go_wp2_with fail
        refine (count_any A2 nk c2 kp q w4 HNK.out (by have := HNK.out; have := HG1.out.2.2.1; omega) HR4.out HG1.out.2.1).mono ?_
        rintro e w5 ⟨rfl, hb⟩
        rw [HQ2.out]
        have HB5 := Lib.hid (keep1 HB4.out hb)
        clear hb HB4 HR4
        go_wp2_with fail
        refine (HS1.out w5 HB5.out).mono ?_
        rintro e w6 ⟨rfl, hb⟩
        have HB6 := Lib.hid (keep1 HB5.out hb)
        clear hb HS1 HB5
        go_wp2
        go_ret2
        exact ⟨rfl, HB6.out⟩
end Go.Proofs.YtondkkhagbcadaaGreat
