/- The walk of the statement HdrErrors. -/
import Derived.Test.YtnkkdciecjhpoaaDoorProg
import Derived.Test.YtnkkdciecjhpoaaDoorOpen
import Derived.Test.YtnkkdciecjhpoaaDoorPlayAll
import Derived.Test.YtnkkdciecjhpoaaDoorHdrAsk
import Derived.Test.YtnkkdciecjhpoaaDoorValFr
import Derived.Test.YtnkkdciecjhpoaaDoorHdrJoinAll
namespace Go.Proofs.YtnkkdciecjhpoaaDoor
open Go.RowKit

/-- What is within the limit. -/
def inV (lim : Int) (l : List (Int × Int)) : List (Int × Int) := l.filter fun v => !(decide (0 < lim) && decide (lim < (v.1.natAbs : Int)))
theorem inV_take {lim : Int} (l : List (Int × Int)) (k : Nat) (hk : k < l.length) :
    (0 < lim ∧ lim < ((l[k]'hk).1.natAbs : Int) → inV lim (l.take (k + 1)) = inV lim (l.take k)) ∧ (¬ (0 < lim ∧ lim < ((l[k]'hk).1.natAbs : Int)) → inV lim (l.take (k + 1)) = inV lim (l.take k) ++ [l[k]'hk]) := by
  unfold inV
  rw [List.take_succ_eq_append_getElem hk, List.filter_append]
  constructor
  · rintro ⟨h1, h2⟩
    rw [List.filter_cons_of_neg (by simp [h1, h2]), List.filter_nil, List.append_nil]
  · intro h
    rw [List.filter_cons_of_pos (by simp only [Bool.not_eq_true', Bool.and_eq_false_imp, decide_eq_true_eq, decide_eq_false_iff_not]; intro h1 h2; exact h ⟨h1, h2⟩), List.filter_nil]
theorem inV_sum_le {lim : Int} {l : List (Int × Int)} (h : ∀ v ∈ l, 0 < v.2) : 0 ≤ sumP (inV lim l) ∧ sumP (inV lim l) ≤ sumP l := vsum_filter h _
theorem inV_vok {lim : Int} {l : List (Int × Int)} (h : VOk l) : VOk (inV lim l) :=
  ⟨fun v hv => h.ok v (List.mem_filter.1 hv).1, fun v hv => h.pos v (List.mem_filter.1 hv).1, by have := (inV_sum_le (lim := lim) h.pos).2; have := h.sum; omega⟩
theorem sumP_take_le0 {l : List (Int × Int)} (h : ∀ v ∈ l, 0 < v.2) (k : Nat) : sumP (l.take k) ≤ sumP l := (vsum_take h k).2
/-- Where it is as long, all is within the limit. -/
theorem inV_all {lim : Int} {l : List (Int × Int)} (h : l.length ≤ (inV lim l).length) : inV lim l = l ∧ ∀ v ∈ l, ¬ (0 < lim ∧ lim < (v.1.natAbs : Int)) := by
  have e : inV lim l = l := List.Sublist.eq_of_length_le List.filter_sublist h
  refine ⟨e, fun v hv => ?_⟩
  rw [← e] at hv
  have := (List.mem_filter.1 hv).2
  rintro ⟨h1, h2⟩
  simp [h1, h2] at this
theorem inV_some {lim : Int} {l : List (Int × Int)} (h : (inV lim l).length < l.length) : ∃ v ∈ l, 0 < lim ∧ lim < (v.1.natAbs : Int) := by
  by_cases hh : ∃ v ∈ l, 0 < lim ∧ lim < (v.1.natAbs : Int)
  · exact hh
  · exfalso
    have : inV lim l = l := List.filter_eq_self.2 fun v hv => by
      simp only [Bool.not_eq_true', Bool.and_eq_false_imp, decide_eq_true_eq, decide_eq_false_iff_not]
      exact fun h1 h2 => hh ⟨v, hv, h1, h2⟩
    rw [this] at h
    omega
/-- A sketch that takes values, and a row of its own of those that it took. -/
structure EJ (w0 W : World) (s : Nat) (S0 S : List Nat) (d lim : Int) (A : Option Addr) (cap : Nat) (l1 l2 : List (Int × Int)) : Prop where
  gr : GrownS S0 S w0.heap.size
  fr : Frame S0 w0 W
  hs : HdV W s S d lim l1
  own : OwnV w0.heap.size W A cap l2
  ap : Apart S (blk A)
section
variable {w0 W W' : World} {s : Nat} {S0 S S' : List Nat} {d lim : Int} {A A' : Option Addr} {cap cap' : Nat} {l1 l2 l1' l2' : List (Int × Int)}
theorem EJ.below (h : EJ w0 W s S0 S d lim A cap l1 l2) (hb : Below W.heap.size W W') : EJ w0 W' s S0 S d lim A cap l1 l2 :=
  ⟨h.gr, h.fr.trans (Frame.of_below hb), h.hs.below hb, h.own.below hb, h.ap⟩
theorem EJ.put (h : EJ w0 W s S0 S d lim A cap l1 l2) (hg : GrownS S S' W.heap.size) (hH : HdV W' s S' d lim l1') (hF : Frame S W W') : EJ w0 W' s S0 S' d lim A cap l1' l2 := by
  refine ⟨fun k hk => ?_, h.fr.grow h.gr hF, hH, h.own.frame hF h.ap.symm, fun k hk hm => ?_⟩
  · rcases hg k hk with h1 | h1
    · exact h.gr k h1
    · exact .inr (Nat.le_trans h.fr.size h1)
  · rcases hg k hk with h1 | h1
    · exact h.ap k h1 hm
    · have := (h.own.blk_le k hm).2; omega
theorem EJ.app (h : EJ w0 W s S0 S d lim A cap l1 l2) (ho : OwnV w0.heap.size W' A' cap' l2') (hF : Frame (blk A) W W') (hb : ∀ k ∈ blk A', k ∈ blk A ∨ W.heap.size ≤ k) : EJ w0 W' s S0 S d lim A' cap' l1 l2' := by
  refine ⟨h.gr, ⟨hF.os.trans h.fr.os, hF.tape.trans h.fr.tape, hF.output.trans h.fr.output, Nat.le_trans h.fr.size hF.size, fun k hk hn => (hF.block k (Nat.lt_of_lt_of_le hk h.fr.size) fun hm => by have := (h.own.blk_le k hm).1; omega).trans (h.fr.block k hk hn)⟩, h.hs.frame hF h.ap, ho, fun k hk hm => ?_⟩
  rcases hb k hm with h1 | h1
  · exact h.ap k hk h1
  · have := h.hs.lt k hk; omega
end
/-- Joined, or nothing to join. -/
theorem hjoin_lim (b : Nat) (S : List Nat) (d lim : Int) (l : List (Int × Int)) (m : Nat) (T : List Nat) (l2 : List (Int × Int)) (w : World) (h : HdV w b S d lim l) (k : HdV w m T d 0 l2) (ap : Apart T S) (hv : VOk l) (kv : VOk l2) (hs : sumP l + sumP l2 ≤ 9223372036854775807) (hn : l.length + l2.length ≤ 4096)
    (hl : lim = 0 ∨ (0 < lim ∧ ∀ v ∈ l2, (v.1.natAbs : Int) ≤ lim)) :
    Calls Tryd.prog 31 #[.pointer (some ⟨b, 0, none⟩), .pointer (some ⟨m, 0, none⟩)] w fun e w' => e = .returned (.int .i64 0) ∧ HpvR b S d lim (l ++ l2) w w' ∧ HdV w' m T d 0 l2 := by
  by_cases h0 : l2 = []
  · subst h0
    refine (hjoin_empty b S d lim l m T 0 w h k).mono ?_
    rintro e w' ⟨rfl, hb⟩
    rw [List.append_nil]
    exact ⟨rfl, ⟨S, GrownS.refl _ _, h.below hb, Frame.of_below hb⟩, k.below hb⟩
  · refine hjoin_v b S d lim l m T 0 l2 w h k ap hv kv hs ?_ hn h0
    obtain ⟨⟨v, mv, ev⟩, ⟨v', mv', ev'⟩⟩ := eLow_mem h0
    rcases hl with hl | ⟨h1, h2⟩
    · exact .inl hl
    · have a1 := h2 v mv
      have a2 := h2 v' mv'
      rw [ev] at a1
      rw [ev'] at a2
      exact .inr ⟨h1, a1, a2⟩
set_option maxRecDepth 100000 in
set_option maxHeartbeats 2000000 in
theorem hdrErrors_walk (w : World) (hTens : TensAt w) (c0 c1 : Int) (bdc0 : -9223372036854775808 ≤ c0 ∧ c0 ≤ 9223372036854775807) (bdc1 : 0 ≤ c1 ∧ c1 < 18446744073709551616) (Avals : Option Addr) (cvals : Nat) (vals : List (Int × Int)) (rvals : Rd w Avals (vals.flatMap fun x => [.int .i64 x.1, .int .u64 x.2])) (bdvals : ∀ x ∈ vals, (-9223372036854775808 ≤ x.1 ∧ x.1 ≤ 9223372036854775807) ∧ (0 ≤ x.2 ∧ x.2 < 18446744073709551616)) (lvals : vals.length ≤ 9223372036854775807) (x : Int) (bdx : -9223372036854775808 ≤ x ∧ x ≤ 9223372036854775807) :
    Calls Tryd.prog 8 #[.agg #[.int .i64 c0, .int .u64 c1], .slice Avals vals.length cvals, .int .i64 x] w fun e w' => e = .returned (.bool true) ∧ Below w.heap.size w w' := by
  have HCB : Hid ((-9223372036854775808 ≤ c0 ∧ c0 ≤ 9223372036854775807) ∧ (0 ≤ c1 ∧ c1 < 18446744073709551616)) := ⟨bdc0, bdc1⟩
  have HXB : Hid (-9223372036854775808 ≤ x ∧ x ≤ 9223372036854775807) := bdx
  have HR : Hid (RdP w Avals vals) := rvals
  have HO : Hid (okP vals) := bdvals
  have HTN := Lib.hid hTens
  clear rvals bdvals bdc0 bdc1 bdx hTens
  obtain ⟨len, hlen⟩ : ∃ len, vals.length = len := ⟨_, rfl⟩
  have HLN := Lib.hid hlen
  rw [hlen] at lvals ⊢
  clear hlen
  go_enter Tryd.func8, Tryd.ntmps8
  have hb0 : Below w.heap.size w (w.alloc (.cells #[.int .i64 c0, .int .u64 c1] 45)) := (Below.refl _ _).alloc (Nat.le_refl _) _
  have r2 := At.new' w #[.int .i64 c0, .int .u64 c1] 45 rfl
  go_wp2_with fail
  obtain ⟨rb, hrb⟩ : ∃ r, w.heap.size = r := ⟨_, rfl⟩
  obtain ⟨W1, hW1⟩ : ∃ W1, w.alloc (.cells #[.int .i64 c0, .int .u64 c1] 45) = W1 := ⟨_, rfl⟩
  rw [hW1] at hb0 r2 ⊢
  have HRB : Hid (w.heap.size ≤ rb) := Nat.le_of_eq hrb
  rw [hrb] at r2
  try rw [hrb]
  clear hW1 hrb
  refine (alive_any _ (HTN.out.below hb0)).mono ?_
  rintro e w1 ⟨rfl, hb⟩
  have hb1 := keep1 hb0 hb
  replace r2 := r2.below hb
  clear hb0 hb
  go_wp2_with fail
  refine (hends_nil _).mono ?_
  rintro e w2 ⟨rfl, rfl⟩
  go_wp2_with fail
  refine (hquant_nil 0 1 _).mono ?_
  rintro e w2 ⟨rfl, hb⟩
  have hb2 := keep1 hb1 hb
  replace r2 := r2.below hb
  clear hb hb1
  go_wp2_with fail
  refine (hrank_nil 1 _).mono ?_
  rintro e w3 ⟨rfl, rfl⟩
  go_wp2_with fail
  refine (hlike_nil x _).mono ?_
  rintro e w3 ⟨rfl, rfl⟩
  go_wp2_with fail
  refine (hput_nil 1 1 _).mono ?_
  rintro e w3 ⟨rfl, rfl⟩
  go_wp2_with fail
  refine (hjoin_nil _).mono ?_
  rintro e w3 ⟨rfl, rfl⟩
  go_wp2_with fail
  refine (htotal_nil _).mono ?_
  rintro e w3 ⟨rfl, rfl⟩
  go_wp2_with fail
  refine (hzero_nil _).mono ?_
  rintro e w3 ⟨rfl, rfl⟩
  go_wp2_with fail
  refine (hconf_nil _).mono ?_
  rintro e w3 ⟨rfl, hb⟩
  have HB3 := Lib.hid (keep1 hb2 hb)
  have HR3 := Lib.hid (r2.below hb)
  clear hb hb2 r2
  have f3 := HR3.out.two
  have l3 := HR3.out.lt
  by_cases hcan : c0 < 1 ∨ 4 < c0 ∨ 9223372036854775808 < c1
  · go_wp2_with fail
    refine (hnew_bad c0 c1 w3 (HTN.out.below HB3.out) hcan).mono ?_
    rintro e w4 ⟨rfl, hb⟩
    have HB4 := Lib.hid (keep1 HB3.out hb)
    have r4 := HR3.out.below hb
    have f4 := r4.two
    have l4 := r4.lt
    have HBU := Lib.hid (build_any Avals len cvals vals c0 w4 (HTN.out.below HB4.out) HLN.out lvals (HR.out.below HB4.out) HO.out)
    clear hb f3 l3 HB3
    have hd : (decide (1 ≤ c0) = false) ∨ (decide (1 ≤ c0) = true ∧ decide (c0 ≤ 4) = false) ∨ (decide (1 ≤ c0) = true ∧ decide (c0 ≤ 4) = true ∧ decide (c1 ≤ 9223372036854775808) = false) := by
      simp only [decide_eq_true_eq, decide_eq_false_iff_not]; omega
    clear hcan
    rcases hd with hd1 | ⟨hd1, hd2⟩ | ⟨hd1, hd2, hd3⟩
    all_goals
      go_wp2_with fail
      refine HBU.out.mono ?_
      rintro e w5 (⟨hn, rfl, hb⟩ | ⟨hP, s, m, S, rfl, hB⟩)
      · have HB5 := Lib.hid (keep1 HB4.out hb)
        clear hb hn HB4 r4 f4 l4 HBU
        go_wp2
        go_ret
        exact ⟨rfl, HB5.out⟩
      · have HB5 := Lib.hid (keep1 HB4.out (Two.below hB))
        clear hP hB HB4 r4 f4 l4 HBU
        go_wp2
        go_ret
        exact ⟨rfl, HB5.out⟩
  · have HD : Hid ((1 ≤ c0 ∧ c0 ≤ 4) ∧ (0 ≤ c1 ∧ c1 ≤ 9223372036854775808)) := by have := HCB.out; show _ ∧ _; omega
    have hd1 : decide (1 ≤ c0) = true := decide_eq_true HD.out.1.1
    have hd2 : decide (c0 ≤ 4) = true := decide_eq_true HD.out.1.2
    have hd3 : decide (c1 ≤ 9223372036854775808) = true := decide_eq_true HD.out.2.2
    clear hcan
    go_wp2_with fail
    refine (hnew_any c0 c1 w3 (HTN.out.below HB3.out) HD.out.1.1 HD.out.1.2 HD.out.2.1 HD.out.2.2).mono ?_
    rintro e w4 ⟨⟨s, S, rfl, hW, hH⟩, hb⟩
    have HB4 := Lib.hid (keep1 HB3.out hb)
    have r4 := HR3.out.below hb
    have f4 := r4.two
    have l4 := r4.lt
    have HS4 : Hid (HdV w4 s S c0 c1 []) := hdv_new hH
    have HWS := Lib.hid hW
    clear hb f3 l3 hW hH
    go_wp2_with fail
    refine (build_any Avals len cvals vals c0 w4 (HTN.out.below HB4.out) HLN.out lvals (HR.out.below HB4.out) HO.out).mono ?_
    rintro e w5 (⟨hn, rfl, hb⟩ | ⟨hP, o, m, So, rfl, hB⟩)
    · have HB5 := Lib.hid (keep1 HB4.out hb)
      clear hb hn HB4 r4 f4 l4
      go_wp2
      go_ret
      exact ⟨rfl, HB5.out⟩
    · have HP := Lib.hid hP
      have HV := Lib.hid (hP.vok HO.out)
      have HB5 := Lib.hid (keep1 HB4.out (Two.below hB))
      have HOV : Hid (HdV w5 o So c0 0 vals) := Two.x hB
      have HOM : Hid (BinsAt w5 m (.slice none 0 0) (.slice none 0 0) c0 0 4096 Avals len cvals) := Two.y hB
      have HE0 : Hid (EJ w5 w5 s S S c0 c1 none 0 (inV c1 (vals.take 0)) (inV c1 (vals.take 0))) := by
        have : inV c1 (vals.take 0) = [] := by simp [inV]
        rw [this]
        exact ⟨fun k hk => .inl hk, Frame.refl _ _, HS4.out.below (Two.below hB), OwnV.nil _ _, fun k hk => by simp [blk]⟩
      have HAP : Hid (Apart So S ∧ m ∉ S ∧ rb ∉ S) := by
        have h1 := Two.ws hB
        have h2 := Two.wt hB
        refine ⟨fun k hk hm => ?_, fun hm => ?_, fun hm => ?_⟩
        · have := (h1 k hk).1; have := (HWS.out k hm).2; omega
        · have := (h2 m (by simp)).1; have := (HWS.out m hm).2; omega
        · have := (HWS.out rb hm).1; have := HR3.out.lt; omega
      have HWW : Hid (Within S w.heap.size w5.heap.size) := fun k hk => ⟨by have := (HWS.out k hk).1; have := HB3.out.size; omega, by have := (HWS.out k hk).2; have := (Two.below hB).size; omega⟩
      have HR5 := Lib.hid (r4.below (Two.below hB))
      have len60 : len ≤ 60 := by have := HP.out.n; have := HLN.out; omega
      clear hP hB HB4 r4 f4 l4 HS4 HWS HR3 HB3
      go_wp2
      clear hd1 hd2 hd3
      go_loopw [23, 25, 26, 149] (fun iv _ _ i wr => ∃ k : Nat, ∃ A cap S', k ≤ len ∧ i = .int .i64 k ∧ iv = .slice A (inV c1 (vals.take k)).length cap ∧ Hid (EJ w5 wr s S S' c0 c1 A cap (inV c1 (vals.take k)) (inV c1 (vals.take k)))) (fun _ _ _ i _ => len - (intOf i).toNat)
      case atStart => exact ⟨0, none, 0, S, by omega, rfl, by simp [inV], HE0⟩
      case round =>
        obtain ⟨k, A, cap, S', hk, rfl, rfl, H⟩ := hrel
        clear HE0
        have HBW : Hid (Below w.heap.size w wr) := H.out.fr.below' HB5.out HB5.out.size HWW.out
        by_cases hlt : k < len
        · obtain ⟨g, o', rfl, hg, d1, d2⟩ := (HR.out.below HBW.out).at k (by have := HLN.out; omega)
          have HOX := Lib.hid (HO.out.at k (by have := HLN.out; omega))
          have HY := Lib.hid (HP.out.c _ (List.getElem_mem (show k < vals.length by have := HLN.out; omega)))
          have HIN := Lib.hid (inV_take (lim := c1) vals k (by have := HLN.out; omega))
          have HIO := Lib.hid (inV_vok (lim := c1) (HV.out.take k))
          have HSB : Hid (sumP (inV c1 (vals.take k)) ≤ 67553994410557440) := by
            have h1 := inV_sum_le (lim := c1) (HV.out.take k).pos
            have h2 := (sumP_take_le0 HV.out.pos k)
            have h3 := HP.out.sum
            show _ ≤ _
            omega
          have HLB : Hid ((inV c1 (vals.take k)).length ≤ k) := by
            have h1 := List.length_filter_le (fun v : Int × Int => !(decide (0 < c1) && decide (c1 < (v.1.natAbs : Int)))) (vals.take k)
            rw [List.length_take] at h1
            show (List.filter _ _).length ≤ _
            omega
          obtain ⟨⟨x', y'⟩, hx⟩ : ∃ x, vals[k]'(by have := HLN.out; omega) = x := ⟨_, rfl⟩
          rw [hx] at d1 d2 HOX HY HIN
          dsimp only at d1 d2 HOX HY HIN
          clear hx
          have hR4 : At wr rb #[.int .i64 c0, .int .u64 c1] 45 := H.out.fr.at HR5.out HAP.out.2.2
          have hba : Below wr.heap.size wr (wr.alloc (.cells #[.int .i64 x', .int .u64 y'] 60)) := (Below.refl _ _).alloc (Nat.le_refl _) _
          have aV := At.new wr #[.int .i64 x', .int .u64 y'] 60
          have r6 := hR4.below hba
          have H6 := Lib.hid (H.out.below hba)
          go_wp2
          obtain ⟨g2, hg2⟩ : ∃ g2, wr.heap.size = g2 := ⟨_, rfl⟩
          obtain ⟨W6, hW6⟩ : ∃ W, wr.alloc (.cells #[.int .i64 x', .int .u64 y'] 60) = W := ⟨_, rfl⟩
          rw [hW6] at aV r6 H6
          rw [hg2] at aV
          simp only [hW6, hg2]
          have HSZ := Lib.hid fun W => (rsize_any x' W HOX.out.1.1 HOX.out.1.2).mono fun e w' (h : e = .returned (.int .u64 (x'.natAbs : Int)) ∧ W = w') => (⟨h.1, by rw [← h.2]; exact Below.refl _ _⟩ : e = .returned (.int .u64 (x'.natAbs : Int)) ∧ Below W.heap.size W w')
          have HPV := Lib.hid fun (hc : c1 = 0 ∨ (0 < c1 ∧ (x'.natAbs : Int) ≤ c1)) W (h : HdV W s S' c0 c1 (inV c1 (vals.take k))) => hput_v s S' c0 c1 x' y' _ W h HIO.out HOX.out.1 HY.out.1 (by have := HSB.out; have := HY.out; omega) hc (by have := HLB.out; omega)
          have HPR := Lib.hid fun (hc : 0 < c1 ∧ c1 < (x'.natAbs : Int)) W (h : HdV W s S' c0 c1 (inV c1 (vals.take k))) => hput_vrange s S' c0 c1 x' y' _ W h HOX.out.1 HY.out.1 hc.1 hc.2
          obtain ⟨ax, hax⟩ : ∃ a : Int, (x'.natAbs : Int) = a := ⟨_, rfl⟩
          rw [hax] at HSZ HPV HPR
          have HAX := Lib.hid hax
          have HGV : Hid (g2 ∉ S') := fun hm => by have := H.out.hs.lt g2 hm; omega
          clear hW6 hg2 hba hR4 d1 d2 hg hax H
          by_cases hout : 0 < c1 ∧ c1 < ax
          · have HOUT := Lib.hid hout
            have e1 : decide (0 < c1) = true := decide_eq_true hout.1
            have e2 : decide (c1 < ax) = true := decide_eq_true hout.2
            have HIN' : Hid (inV c1 (vals.take (k + 1)) = inV c1 (vals.take k)) := by show _ = _; rw [HIN.out.1 (by rw [HAX.out]; exact hout)]
            clear hout HPV
            have hfar1 := fun x : Far W6 => (x.at r6).two
            have hfar2 := fun x : Far W6 => (x.at aV).two
            refine wp_region_far (by kernel_rfl) (by kernel_rfl) ?_
            repeat (first | go_big_quiet_skip | (go_big_quiet_want; go_big_quiet_op; first | go_big_quiet_on | (apply Exists.intro; refine ⟨fun _ => ?_, ?_⟩; (focus (first | (with_reducible refine far_of (HSZ.out _)))); go_big_quiet_on)))
            refine wpQuiet_nil ?_
            rintro _ ⟨xq, rfl⟩
            clear hfar1 hfar2
            have hbf := xq.below
            have aV7 := aV.below hbf
            have fV7 := aV7.two
            have lV7 := aV7.lt
            have H7 := Lib.hid (H6.out.below hbf)
            clear aV r6 hbf H6
            go_wp2_with fail
            refine (HPR.out HOUT.out _ H7.out.hs).mono ?_
            rintro e w8 ⟨rfl, hb⟩
            have H8 := Lib.hid (H7.out.below hb)
            clear hb H7 HPR
            rw [← HIN'.out] at H8
            clear aV7 fV7 lV7
            go_wp2
            go_roundw
            case rel => exact ⟨k + 1, A, cap, S', by omega, by simp, by rw [HIN'.out], H8⟩
            case measure => simp [intOf]; omega
          · have HOUT : Hid (c1 = 0 ∨ (0 < c1 ∧ ax ≤ c1)) := by have := HD.out; show _ ∨ _; omega
            have HIN' : Hid (inV c1 (vals.take (k + 1)) = inV c1 (vals.take k) ++ [(x', y')]) := by show _ = _; rw [HIN.out.2 (by rw [HAX.out]; exact hout)]
            have hsp : (decide (0 < c1) = false) ∨ (decide (0 < c1) = true ∧ decide (c1 < ax) = false) := by simp only [decide_eq_true_eq, decide_eq_false_iff_not]; omega
            clear hout HPR
            rcases hsp with e1 | ⟨e1, e2⟩
            all_goals
              have hfar1 := fun x : Far W6 => (x.at r6).two
              have hfar2 := fun x : Far W6 => (x.at aV).two
              refine wp_region_far (by kernel_rfl) (by kernel_rfl) ?_
              repeat (first | go_big_quiet_skip | (go_big_quiet_want; go_big_quiet_op; first | go_big_quiet_on | (apply Exists.intro; refine ⟨fun _ => ?_, ?_⟩; (focus (first | (with_reducible refine far_of (HSZ.out _)))); go_big_quiet_on)))
              refine wpQuiet_nil ?_
              rintro _ ⟨xq, rfl⟩
              clear hfar1 hfar2
              have hbf := xq.below
              have aV7 := aV.below hbf
              have fV7 := aV7.two
              have lV7 := aV7.lt
              have H7 := Lib.hid (H6.out.below hbf)
              clear aV r6 hbf H6
              go_wp2_with fail
              refine (HPV.out HOUT.out _ H7.out.hs).mono ?_
              rintro e w8 ⟨rfl, S8, hg8, hH8, hF8⟩
              have aV8 := hF8.at aV7 HGV.out
              have fV8 := aV8.two
              have lV8 := aV8.lt
              have H8 := Lib.hid (H7.out.put hg8 hH8 hF8)
              clear hg8 hH8 hF8 H7 HPV aV7 fV7 lV7
              have hbe : Below w8.heap.size w8 (w8.alloc (.cells #[.int .i64 x', .int .u64 y'] 60)) := (Below.refl _ _).alloc (Nat.le_refl _) _
              have H9 := Lib.hid (H8.out.below hbe)
              have HRN := Lib.hid (rdV_new w8 x' y')
              have HZ9 : Hid (w5.heap.size ≤ (w8.alloc (.cells #[.int .i64 x', .int .u64 y'] 60)).heap.size) := Nat.le_trans H8.out.fr.size hbe.size
              obtain ⟨nI, hnI⟩ : ∃ n, (inV c1 (vals.take k)).length = n := ⟨_, rfl⟩
              have HNI := Lib.hid hnI
              rw [hnI]
              have hn61 : nI ≤ 60 := by have := HLB.out; omega
              clear hbe H8 hnI aV8
              go_wp2_with (first | (at_builtin; refine wpList_append_valsF rfl _ _ rfl w5.heap.size A cap nI (inV c1 (vals.take k)) rfl HNI.out H9.out.own (some ⟨w8.heap.size, 0, none⟩) 1 1 [(x', y')] rfl rfl HRN.out (by omega) HZ9.out ?_; intro A2 cap2 W2 HO2 hF2 hB2) | fail)
              have H10 : Hid (EJ w5 W2 s S S8 c0 c1 A2 cap2 (inV c1 (vals.take (k + 1))) (inV c1 (vals.take (k + 1)))) := by
                show EJ _ _ _ _ _ _ _ _ _ _ _
                rw [HIN'.out]
                exact H9.out.app HO2.out hF2 hB2
              clear hF2 hB2 HO2 H9 HZ9 HRN fV8 lV8
              go_wp2
              go_roundw
              case rel => exact ⟨k + 1, A2, cap2, S8, by omega, by simp, by rw [HIN'.out, List.length_append, HNI.out]; rfl, H10⟩
              case measure => simp [intOf]; omega
        · obtain rfl : k = len := by omega
          have htk : vals.take k = vals := List.take_of_length_le (by have := HLN.out; omega)
          rw [htk] at H ⊢
          have HIO := Lib.hid (inV_vok (lim := c1) HV.out)
          have HALL := Lib.hid (inV_all (lim := c1) (l := vals))
          have HSOME := Lib.hid (inV_some (lim := c1) (l := vals))
          have HSB : Hid (sumP (inV c1 vals) ≤ 67553994410557440) := by
            have h1 := (inV_sum_le (lim := c1) HV.out.pos).2
            have h3 := HP.out.sum
            show _ ≤ _
            omega
          have HLB : Hid ((inV c1 vals).length ≤ k) := by
            have h1 := List.length_filter_le (fun v : Int × Int => !(decide (0 < c1) && decide (c1 < (v.1.natAbs : Int)))) vals
            have := HLN.out
            show (List.filter _ _).length ≤ _
            omega
          obtain ⟨I, hI⟩ : ∃ I, inV c1 vals = I := ⟨_, rfl⟩
          rw [hI] at H HIO HALL HSOME HSB HLB ⊢
          rw [HLN.out] at HALL HSOME
          obtain ⟨n, hn⟩ : ∃ n, I.length = n := ⟨_, rfl⟩
          rw [hn] at HALL HSOME HLB ⊢
          have HNL := Lib.hid hn
          have n60 : n ≤ 60 := by have := HLB.out; omega
          have hR4 : At wr rb #[.int .i64 c0, .int .u64 c1] 45 := H.out.fr.at HR5.out HAP.out.2.2
          have f4 := hR4.two
          have l4 := hR4.lt
          have HBW' := HBW
          clear htk hI hn hlt
          have am := At.new wr #[.slice none 0 0, .slice none 0 0, .int .i64 c0, .int .i64 0, .int .i64 4096, .slice A n cap] 63
          have hba : Below wr.heap.size wr (wr.alloc (.cells #[.slice none 0 0, .slice none 0 0, .int .i64 c0, .int .i64 0, .int .i64 4096, .slice A n cap] 63)) := (Below.refl _ _).alloc (Nat.le_refl _) _
          have r7 := hR4.below hba
          have H7 := Lib.hid (H.out.below hba)
          have HB7 := Lib.hid (keep1 HBW.out hba)
          have HNS : Hid (wr.heap.size ∉ S) := fun hm => by have := (HWW.out _ hm).2; have := H.out.fr.size; omega
          obtain ⟨mb, hmb⟩ : ∃ mb, wr.heap.size = mb := ⟨_, rfl⟩
          obtain ⟨W7, hW7⟩ : ∃ W, wr.alloc (.cells #[.slice none 0 0, .slice none 0 0, .int .i64 c0, .int .i64 0, .int .i64 4096, .slice A n cap] 63) = W := ⟨_, rfl⟩
          rw [hW7] at am r7 H7 HB7
          rw [hmb] at am HNS
          have f7 := r7.two
          have l7 := r7.lt
          have hd4 : (c0.tmod 4) = c0 % 4 := Int.tmod_eq_emod_of_nonneg (by have := HD.out; omega)
          have hd5 : IntKind.i64.wrap (c0 % 4) = c0 % 4 := by simp only [IntKind.wrap_i64]; omega
          have hd6 : IntKind.i64.wrap (c0 % 4 + 1) = c0 % 4 + 1 := by simp only [IntKind.wrap_i64]; omega
          have HD2 : Hid ((1 ≤ c0 % 4 + 1 ∧ c0 % 4 + 1 ≤ 4) ∧ c0 ≠ c0 % 4 + 1) := by have := HD.out; show (_ ∧ _) ∧ _; omega
          clear hR4 hba H HBW HBW'
          go_wp2_with fail
          refine (hnew_any (c0 % 4 + 1) 0 W7 (HTN.out.below HB7.out) HD2.out.1.1 HD2.out.1.2 (by omega) (by omega)).mono ?_
          rintro e w9 ⟨⟨dd, Sd, rfl, hWd, hHd⟩, hb⟩
          have HDD : Hid (HdV w9 dd Sd (c0 % 4 + 1) 0 []) := hdv_new hHd
          have H9 := Lib.hid (H7.out.below hb)
          have HB9 := Lib.hid (keep1 HB7.out hb)
          have r9 := r7.below hb
          have HM9 : Hid (BinsAt w9 mb (.slice none 0 0) (.slice none 0 0) c0 0 4096 A n cap) := am.below hb
          clear hWd hHd hb hd4 hd5 hd6 f7 l7 r7 am H7 HB7 hmb hW7 f4 l4
          obtain ⟨T, hT⟩ : ∃ T, sumP I = T := ⟨_, rfl⟩
          have HTT := Lib.hid hT
          have HTR : Hid (0 ≤ T ∧ T ≤ 67553994410557440) := by have h1 := HIO.out.sum0; have h2 := HSB.out; rw [hT] at h1 h2; exact ⟨h1, h2⟩
          have v1 : IntKind.u64.wrap (9223372036854775808 - T) = 9223372036854775808 - T := by have := HTR.out; simp only [IntKind.wrap_u64]; omega
          have HP0 := Lib.hid fun W => (hput_zero s 0 W).mono fun e w' (h : e = .returned (.int .i64 1) ∧ W = w') => (⟨h.1, by rw [← h.2]; exact Below.refl _ _⟩ : e = .returned (.int .i64 1) ∧ Below W.heap.size W w')
          have HTB := Lib.hid fun W (hb : Below w9.heap.size w9 W) => btotal_any mb (.slice none 0 0) (.slice none 0 0) c0 0 4096 A n cap I W (HM9.out.below hb) HNL.out (by omega) (RdP.below H9.out.own.rd hb) HIO.out.pos (by have := HSB.out; omega)
          have HPF := Lib.hid fun W (hb : Below w9.heap.size w9 W) => hput_vfull s S' c0 c1 0 (9223372036854775808 - T) I W (H9.out.hs.below hb) HIO.out (by omega) (by have := HTR.out; omega) (by have := HTR.out; omega) (by rw [HTT.out]; omega) (by have := HD.out; simp; omega)
          have HJM := Lib.hid fun W (hb : Below w9.heap.size w9 W) => hjoin_match s S' c0 c1 I dd Sd (c0 % 4 + 1) 0 [] W (H9.out.hs.below hb) (HDD.out.below hb) HD2.out.2
          have HCF := Lib.hid fun W (hb : Below w9.heap.size w9 W) => hconf_any s S' c0 c1 _ _ _ _ _ W (Hd.below H9.out.hs hb)
          have HSM := Lib.hid fun W (hb : Below w9.heap.size w9 W) => hsame_any s S' c0 c1 I mb (.slice none 0 0) (.slice none 0 0) 0 4096 A n cap W (H9.out.hs.below hb) (HM9.out.below hb) HNL.out (by omega) (RdP.below H9.out.own.rd hb) HIO.out HD.out.1.1 HD.out.1.2
          rw [hT] at HTB
          clear hT
          go_wp2
          have hfar1 := fun x : Far w9 => (x.at r9).two
          refine wp_region_far (by kernel_rfl) (by kernel_rfl) ?_
          repeat (first | go_big_quiet_skip | (go_big_quiet_want; go_big_quiet_op; first | go_big_quiet_on | (apply Exists.intro; refine ⟨fun _ => ?_, ?_⟩; (focus (first | (with_reducible refine far_of (HP0.out _)) | (with_reducible refine far_of (HTB.out _ (Far.below _))) | (with_reducible refine far_of (HPF.out _ (Far.below _))) | (with_reducible refine far_of (HJM.out _ (Far.below _))) | (with_reducible refine far_of (HCF.out _ (Far.below _))) | (with_reducible refine far_of (HSM.out _ (Far.below _))))); go_big_quiet_on)))
          refine wpQuiet_nil ?_
          rintro _ ⟨xq, rfl⟩
          clear hfar1
          have hbf := xq.below
          have H10 := Lib.hid (H9.out.below hbf)
          have HB10 := Lib.hid (keep1 HB9.out hbf)
          have HM10 := Lib.hid (HM9.out.below hbf)
          clear hbf HP0 HTB HPF HJM HCF HSM r9 H9 HB9 HM9 HDD v1
          obtain ⟨W10, hW10⟩ : ∃ W, xq.far = W := ⟨_, rfl⟩
          rw [hW10] at H10 HB10 HM10 ⊢
          have HO10 : Hid (HdV W10 o So c0 0 vals) := HOV.out.frame H10.out.fr HAP.out.1
          have HOM10 : Hid (BinsAt W10 m (.slice none 0 0) (.slice none 0 0) c0 0 4096 Avals k cvals) := H10.out.fr.at HOM.out HAP.out.2.1
          have HAS : Hid (Apart So S' ∧ m ∉ S' ∧ Within S' w.heap.size W10.heap.size) := by
            have z5 := HB5.out.size
            refine ⟨fun j hj hm => ?_, fun hm => ?_, fun j hj => ⟨?_, H10.out.hs.lt j hj⟩⟩
            · rcases H10.out.gr j hm with h1 | h1
              · exact HAP.out.1 j hj h1
              · have := HOV.out.lt j hj; omega
            · rcases H10.out.gr m hm with h1 | h1
              · exact HAP.out.2.1 h1
              · have := At.lt HOM.out; omega
            · rcases H10.out.gr j hj with h1 | h1
              · exact (HWW.out j h1).1
              · omega
          clear hW10 xq HOV HOM HAP HWW HR5 HB5 HNS
          by_cases hlt : n < k
          · have hd : decide ((n : Int) < (k : Int)) = true := decide_eq_true (by omega)
            have hd' : decide (n < k) = true := decide_eq_true hlt
            have HJR : Hid (∀ W, Below W10.heap.size W10 W → Calls Tryd.prog 31 #[.pointer (some ⟨s, 0, none⟩), .pointer (some ⟨o, 0, none⟩)] W fun e w' => e = .returned (.int .i64 7) ∧ Below W.heap.size W w') := fun W hb => by
              obtain ⟨v, hv, hl1, hl2⟩ := HSOME.out hlt
              have he := eLow_le hv
              exact hjoin_range s S' c0 c1 I o So 0 vals W (H10.out.hs.below hb) (HO10.out.below hb) HV.out (List.ne_nil_of_mem hv) hl1 (by omega)
            clear hlt HSOME HALL
            go_wp2_with fail
            refine (HJR.out _ (Below.refl _ _)).mono ?_
            rintro e w11 ⟨rfl, hb⟩
            have H11 := Lib.hid (H10.out.below hb)
            have HB11 := Lib.hid (keep1 HB10.out hb)
            have HM11 := Lib.hid (HM10.out.below hb)
            clear hb H10 HB10 HM10 HJR
            go_wp2_with fail
            refine (hsame_any s S' c0 c1 I mb (.slice none 0 0) (.slice none 0 0) 0 4096 A n cap w11 H11.out.hs HM11.out HNL.out (by omega) H11.out.own.rd HIO.out HD.out.1.1 HD.out.1.2).mono ?_
            rintro e w12 ⟨rfl, hb⟩
            have HB12 := Lib.hid (keep1 HB11.out hb)
            clear hb H11 HB11 HM11
            go_wp2
            go_ret
            exact ⟨rfl, HB12.out⟩
          · have hd : decide ((n : Int) < (k : Int)) = false := decide_eq_false (by omega)
            have hd' : decide (n < k) = false := decide_eq_false hlt
            have HA := Lib.hid (HALL.out (by omega))
            clear hlt HSOME HALL
            go_wp2_with fail
            refine (hjoin_lim s S' c0 c1 I o So vals W10 H10.out.hs HO10.out HAS.out.1 HIO.out HV.out (by have := HSB.out; have := HP.out.sum; omega) (by have := HNL.out; have := HLN.out; omega) (by
              rcases (by have := HD.out; omega : c1 = 0 ∨ 0 < c1) with h | h
              · exact .inl h
              · exact .inr ⟨h, fun v hv => by have := HA.out.2 v hv; omega⟩)).mono ?_
            rintro e w11 ⟨rfl, ⟨S12, hg, hH, hF⟩, hO⟩
            have HB11 : Hid (Below w.heap.size w w11) := hF.below' HB10.out HB10.out.size HAS.out.2.2
            have HO11 := Lib.hid hO
            have HOM11 : Hid (BinsAt w11 m (.slice none 0 0) (.slice none 0 0) c0 0 4096 Avals k cvals) := hF.at HOM10.out HAS.out.2.1
            clear hg hH hF hO H10 HB10 HM10 HO10 HOM10
            go_wp2_with fail
            refine (hsame_any o So c0 0 vals m (.slice none 0 0) (.slice none 0 0) 0 4096 Avals k cvals w11 HO11.out HOM11.out HLN.out (by omega) (HR.out.below HB11.out) HV.out HD.out.1.1 HD.out.1.2).mono ?_
            rintro e w12 ⟨rfl, hb⟩
            have HB12 := Lib.hid (keep1 HB11.out hb)
            clear hb HO11 HOM11 HB11
            go_wp2
            go_ret
            exact ⟨rfl, HB12.out⟩
end Go.Proofs.YtnkkdciecjhpoaaDoor
