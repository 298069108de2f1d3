/- Texts of this claim, joined, indents halved: HighAll, Vals, RowV, Ref12, Bins13, PartD. -/
import Derived.Test.YtlbnlmhcpephbaaGreatDoorProg
import Derived.LoopNIn
import Derived.BigQuiet
import Derived.Deep.QuietTactic
import Derived.Test.YtlbnlmhcpephbaaGreatDoorKb3
namespace Go.Proofs.YtlbnlmhcpephbaaGreatDoor.Hi
open Go.RowKit
abbrev sd : Bool := false
def HighR (w : World) (b : Nat) (S : List Nat) (most : Int) (ps : List (Int × Int)) (lost : Int) : Prop :=
 ∃ c S', S = b :: S' ∧ b ∉ S' ∧ At w b #[.int .i64 most, .pointer (some ⟨c, 0, none⟩), .int .u64 lost] 263 ∧ Strip w c S' most ps
section
variable {w w' : World} {b : Nat} {S T : List Nat} {most lost lost' : Int} {ps : List (Int × Int)}
theorem HighR.frame (h : HighR w b S most ps lost) (hf : Frame T w w') (hn : Apart S T) : HighR w' b S most ps lost := by
 obtain ⟨c, S', rfl, h1, h2, h3⟩ := h
 exact ⟨c, S', rfl, h1, hf.at h2 (hn b (by simp)), h3.frame hf fun k hk => hn k (by simp [hk])⟩
theorem HighR.below (h : HighR w b S most ps lost) (hb : Below w.heap.size w w') : HighR w' b S most ps lost := h.frame (T := []) (Frame.of_below hb) (fun _ _ => by simp)
theorem HighR.lt (h : HighR w b S most ps lost) : ∀ k ∈ S, k < w.heap.size := by
 obtain ⟨c, S', rfl, h1, h2, h3⟩ := h
 intro k hk
 rcases List.mem_cons.1 hk with rfl | hk
 ·exact h2.lt
 ·exact h3.lt k hk
theorem HighR.mem (h : HighR w b S most ps lost) : b ∈ S := by obtain ⟨c, S', rfl, _⟩ := h; simp
theorem HighR.set (h : HighR w b S most ps lost) : HighR (w.setCell ⟨b, 2, none⟩ (.int .u64 lost')) b S most ps lost' := by
 obtain ⟨c, S', rfl, h1, h2, h3⟩ := h
 exact ⟨c, S', rfl, h1, h2.set_any 2 _ rfl, h3.frame (Frame.set [b] _ b 2 _ (by simp)) fun k hk e => by simp at e; subst e; exact h1 hk⟩
end
structure High (w : World) (b : Nat) (S : List Nat) (most : Int) (ps : List (Int × Int)) (tot : Int) : Prop where
 r : HighR w b S most ps (tot - sumP ps)
 win : Win sd most ps
 m1 : 1 ≤ most
 lo : sumP ps ≤ tot
 hi : tot ≤ 9223372036854775807
section
variable {w w' : World} {b : Nat} {S T : List Nat} {most tot : Int} {ps : List (Int × Int)}
theorem High.frame (h : High w b S most ps tot) (hf : Frame T w w') (hn : Apart S T) : High w' b S most ps tot := ⟨h.r.frame hf hn, h.win, h.m1, h.lo, h.hi⟩
theorem High.below (h : High w b S most ps tot) (hb : Below w.heap.size w w') : High w' b S most ps tot := ⟨h.r.below hb, h.win, h.m1, h.lo, h.hi⟩
theorem High.lt (h : High w b S most ps tot) : ∀ k ∈ S, k < w.heap.size := h.r.lt
theorem High.gd (h : High w b S most ps tot) : Gd ps := by obtain ⟨c, S', _, _, _, h⟩ := h.r; exact h.gd
theorem High.ok (h : High w b S most ps tot) : okP ps := by obtain ⟨c, S', _, _, _, h⟩ := h.r; exact h.ok
theorem High.len (h : High w b S most ps tot) : (ps.length : Int) ≤ most ∧ ps.length ≤ 4096 := by obtain ⟨c, S', _, _, _, h⟩ := h.r; exact h.len
theorem High.most4 (h : High w b S most ps tot) : most ≤ 4096 := by obtain ⟨c, S', _, _, _, A, k, _, h⟩ := h.r; exact h.most1
theorem High.sum0 (h : High w b S most ps tot) : 0 ≤ sumP ps := sumP_nonneg h.gd.pos
end
theorem lnew_any (most : Int) (w : World) (h1 : 1 ≤ most) (h2 : most ≤ 4096) :
  Calls Tryz.prog 98 #[.int .i64 most] w fun e w' => (∃ b S, e = .returned (.tuple #[.pointer (some ⟨b, 0, none⟩), .int .i64 0]) ∧ w.heap.size ≤ b ∧ Within S w.heap.size w'.heap.size ∧ High w' b S most [] 0) ∧ Below w.heap.size w w' := by
 have HS := Lib.hid (snew_any most w h1 h2)
 have H1 := Lib.hid (And.intro h1 h2)
 clear h1 h2
 go_enter Tryz.func98, Tryz.ntmps98
 go_wp2_with fail
 refine HS.out.mono ?_
 rintro e w1 ⟨⟨c, rfl, hc, hC⟩, hb⟩
 have HC := Lib.hid hC
 have z1 := hb.size
 have hcl := hC.lt c (by simp)
 have hcg : w.heap.size ≤ c := Nat.le_of_eq hc.symm
 clear hC hc
 go_wp2
 go_ret2
 have a1 := At.new w1 #[.int .i64 most, .pointer (some ⟨c, 0, none⟩), .int .u64 0] 263
 have hb2 : Below w1.heap.size w1 (w1.alloc (.cells #[.int .i64 most, .pointer (some ⟨c, 0, none⟩), .int .u64 0] 263)) := (by repeat (first | with_reducible assumption | with_reducible exact Below.refl _ _ | with_reducible refine Below.drew ?_ | with_reducible refine Below.drewN ?_ _ | with_reducible refine Below.setCell ?_ (by first | omega | (simp; done) | (simp; omega)) _ | with_reducible refine Below.alloc ?_ (by first | omega | (simp; done) | (simp; omega) | (simp [World.setCell]; omega)) _))
 refine ⟨⟨_, [w1.heap.size, c], rfl, z1, ?_, ⟨⟨c, [c], rfl, by simp; omega, a1, HC.out.below hb2⟩, win_nil, H1.out.1, by rw [sumP_nil]; omega, by omega⟩⟩, (by repeat (first | with_reducible assumption | with_reducible exact Below.refl _ _ | with_reducible refine Below.drew ?_ | with_reducible refine Below.drewN ?_ _ | with_reducible refine Below.setCell ?_ (by first | omega | (simp; done) | (simp; omega)) _ | with_reducible refine Below.alloc ?_ (by first | omega | (simp; done) | (simp; omega) | (simp [World.setCell]; omega)) _))⟩
 intro k hk
 have := a1.lt
 simp only [List.mem_cons, List.not_mem_nil, or_false] at hk
 rcases hk with rfl | rfl
 ·omega
 ·omega
theorem lnew_bad (most : Int) (w : World) (h : most < 1 ∨ 4096 < most) :
  Calls Tryz.prog 98 #[.int .i64 most] w fun e w' => e = .returned (.tuple #[.pointer none, .int .i64 1]) ∧ w = w' := by
 have HS := Lib.hid (snew_bad most w h)
 clear h
 go_enter Tryz.func98, Tryz.ntmps98
 go_wp2_with fail
 refine HS.out.mono ?_
 rintro e w1 ⟨rfl, rfl⟩
 go_wp2
 go_ret2
 exact ⟨rfl, rfl⟩
theorem lout_any (b : Nat) (S : List Nat) (most lost q e : Int) (ps : List (Int × Int)) (w : World) (h : HighR w b S most ps lost) (hm : 1 ≤ most ∧ most ≤ 4096) (hq : -9223372036854775808 ≤ q ∧ q ≤ 9223372036854775807) (he : -9223372036854775808 ≤ e ∧ e ≤ 9223372036854775807) :
  Calls Tryz.prog 148 #[.pointer (some ⟨b, 0, none⟩), .int .i64 q, .int .i64 e] w fun r w' => r = .returned (.bool (decide (most ≤ gap sd e q))) ∧ w = w' := by
 obtain ⟨c, S', _, _, s1, _⟩ := h
 have f1 := s1.three
 obtain ⟨x, hx⟩ : ∃ x, IntKind.u64.wrap e = x := ⟨_, rfl⟩
 obtain ⟨y, hy⟩ : ∃ y, IntKind.u64.wrap q = y := ⟨_, rfl⟩
 have hm' : IntKind.u64.wrap most = most := by simp only [IntKind.wrap_u64]; omega
 have hg : gap sd e q = q - e := rfl
 by_cases h1 : e < q
 ·have hd : IntKind.u64.wrap (y - x) = q - e := by subst hx hy; simp only [IntKind.wrap_u64]; omega
  rw [hg]
  clear hg
  by_cases h2 : most ≤ q - e
  ·rw [decide_eq_true h2]
   clear hq he hm
   go_enter Tryz.func148, Tryz.ntmps148
   go_wp2
   go_ret
   exact ⟨rfl, rfl⟩
  ·rw [decide_eq_false h2]
   clear hq he hm
   go_enter Tryz.func148, Tryz.ntmps148
   go_wp2
   go_ret
   exact ⟨rfl, rfl⟩
 ·rw [hg, decide_eq_false (by omega)]
  clear hg hq he hm hx hy
  go_enter Tryz.func148, Tryz.ntmps148
  go_wp2
  go_ret
  exact ⟨rfl, rfl⟩
def endV (s : Bool) (ps : List (Int × Int)) : Value := if ps.length = 0 then .tuple #[.int .i64 0, .bool false] else .tuple #[.int .i64 (endP s ps), .bool true]
theorem lend_any (b : Nat) (S : List Nat) (most lost : Int) (ps : List (Int × Int)) (w : World) (h : HighR w b S most ps lost) :
  Calls Tryz.prog 147 #[.pointer (some ⟨b, 0, none⟩)] w fun r w' => r = .returned (endV sd ps) ∧ Below w.heap.size w w' := by
 obtain ⟨c, S', _, _, s1, hS⟩ := h
 have f1 := s1.three
 have HC := Lib.hid (sends_any c S' most ps w hS)
 clear hS
 by_cases h0 : ps.length = 0
 ·have HE : Hid (endV sd ps = .tuple #[.int .i64 0, .bool false]) := by show _ = _; unfold endV; rw [if_pos h0]
  have HE2 : Hid (endsV ps = .tuple #[.int .i64 0, .int .i64 0, .bool false]) := by show _ = _; unfold endsV; rw [if_pos h0]
  clear h0
  go_enter Tryz.func147, Tryz.ntmps147
  go_wp2_with fail
  refine HC.out.mono ?_
  rintro e w1 ⟨rfl, hb⟩
  rw [HE2.out]
  go_wp2
  go_ret2
  exact ⟨by rw [HE.out]; rfl, hb⟩
 ·have HE : Hid (endV sd ps = .tuple #[.int .i64 (ps.getD 0 (0, 0)).1, .bool true]) := by show _ = _; unfold endV; rw [if_neg h0]; rfl
  have HE2 : Hid (endsV ps = .tuple #[.int .i64 (ps.getD 0 (0, 0)).1, .int .i64 (ps.getD (ps.length - 1) (0, 0)).1, .bool true]) := by show _ = _; unfold endsV; rw [if_neg h0]
  clear h0
  obtain ⟨x, hx⟩ : ∃ x, (ps.getD (ps.length - 1) (0, 0)).1 = x := ⟨_, rfl⟩
  obtain ⟨y, hy⟩ : ∃ x, (ps.getD 0 (0, 0)).1 = x := ⟨_, rfl⟩
  rw [hx] at HE2
  rw [hy] at HE HE2
  clear hx hy
  go_enter Tryz.func147, Tryz.ntmps147
  go_wp2_with fail
  refine HC.out.mono ?_
  rintro e w1 ⟨rfl, hb⟩
  rw [HE2.out]
  go_wp2
  go_ret2
  exact ⟨by rw [HE.out]; rfl, hb⟩
theorem ltotal_any (b : Nat) (S : List Nat) (most tot : Int) (ps : List (Int × Int)) (w : World) (h : High w b S most ps tot) :
  Calls Tryz.prog 133 #[.pointer (some ⟨b, 0, none⟩)] w fun r w' => r = .returned (.int .u64 tot) ∧ Below w.heap.size w w' := by
 have hw : IntKind.u64.wrap (sumP ps + (tot - sumP ps)) = tot := by have := h.lo; have := h.hi; have := h.sum0; simp only [IntKind.wrap_u64]; omega
 obtain ⟨⟨c, S', _, _, s1, hS⟩, _⟩ := h
 have HS := Lib.hid hS
 obtain ⟨lo, hlo⟩ : ∃ lo, tot - sumP ps = lo := ⟨_, rfl⟩
 rw [hlo] at s1 hw
 clear hS hlo
 go_enter Tryz.func133, Tryz.ntmps133
 go_wp2
 have hfar1 := fun x : Far w => (x.at s1).three
 refine wp_region_far (by kernel_rfl) (by kernel_rfl) ?_
 repeat (first | go_big_quiet_skip | (go_big_quiet_want; go_big_quiet_op; first | go_big_quiet_on | (apply Exists.intro; refine ⟨fun _ => ?_, ?_⟩; (focus (first | (refine far_of_same ((stotal_any c S' most ps _ (HS.out.below (Far.below _))).mono fun _ _ h => ⟨h.1, h.2.symm⟩)))); go_big_quiet_on)))
 refine wpQuiet_nil ?_
 rintro _ ⟨xq, rfl⟩
 clear hfar1
 go_wp2
 go_ret
 exact ⟨rfl, Far.below _⟩
theorem llost_any (b : Nat) (S : List Nat) (most tot : Int) (ps : List (Int × Int)) (w : World) (h : High w b S most ps tot) :
  Calls Tryz.prog 392 #[.pointer (some ⟨b, 0, none⟩)] w fun r w' => r = .returned (.int .u64 (tot - sumP ps)) ∧ w = w' := by
 obtain ⟨⟨c, S', _, _, s1, hS⟩, _⟩ := h
 have f1 := s1.three
 clear hS
 go_enter Tryz.func392, Tryz.ntmps392
 go_wp2
 go_ret
 exact ⟨rfl, rfl⟩
theorem lpairs_any (b : Nat) (S : List Nat) (most tot : Int) (ps : List (Int × Int)) (w : World) (h : High w b S most ps tot) :
  Calls Tryz.prog 393 #[.pointer (some ⟨b, 0, none⟩)] w fun e w' => CloR ps w e w' := by
 obtain ⟨⟨c, S', _, _, s1, hS⟩, _⟩ := h
 have f1 := s1.three
 have HC := Lib.hid (spairs_any c S' most ps w hS)
 clear hS
 go_enter Tryz.func393, Tryz.ntmps393
 go_wp2_with fail
 refine HC.out.mono ?_
 rintro e w' ⟨A', c', rfl, ho, hb⟩
 have HR : Hid (CloR ps w (.returned (.slice A' ps.length c')) w') := ⟨A', c', rfl, ho, hb⟩
 clear ho hb
 go_wp2
 go_ret
 exact HR.out
end Go.Proofs.YtlbnlmhcpephbaaGreatDoor.Hi
namespace Go.Proofs.YtlbnlmhcpephbaaGreatDoor.Hi
open Go.RowKit
structure Shd (w wr : World) (b c : Nat) (S' : List Nat) (most e tot : Int) (ps qs : List (Int × Int)) : Prop where
 nb : b ∉ S'
 at' : At wr b #[.int .i64 most, .pointer (some ⟨c, 0, none⟩), .int .u64 (tot - sumP qs)] 263
 st : Strip wr c S' most qs
 nr : near sd most e qs = near sd most e ps
 sm : sumP qs ≤ tot
 fr : Frame (b :: S') w wr
set_option maxRecDepth 100000 in
theorem lshed_any (b c : Nat) (S' : List Nat) (most tot e : Int) (ps : List (Int × Int)) (w : World) (hbn : b ∉ S') (s1 : At w b #[.int .i64 most, .pointer (some ⟨c, 0, none⟩), .int .u64 (tot - sumP ps)] 263) (hS : Strip w c S' most ps)
  (hm : 1 ≤ most ∧ most ≤ 4096) (he : -9223372036854775808 ≤ e ∧ e ≤ 9223372036854775807) (hs : sumP ps ≤ tot) (ht : tot ≤ 9223372036854775807) :
  Calls Tryz.prog 149 #[.pointer (some ⟨b, 0, none⟩), .int .i64 e] w fun r w' => r = .returned (.tuple #[]) ∧ At w' b #[.int .i64 most, .pointer (some ⟨c, 0, none⟩), .int .u64 (tot - sumP (near sd most e ps))] 263 ∧ Strip w' c S' most (near sd most e ps) ∧ Frame (b :: S') w w' := by
 have H0 : Hid (Shd w w b c S' most e tot ps ps) := ⟨hbn, s1, hS, rfl, hs, Frame.refl _ _⟩
 have HM := Lib.hid hm
 have HE := Lib.hid he
 have HT := Lib.hid ht
 clear hbn s1 hS hs hm he ht
 go_enter Tryz.func149, Tryz.ntmps149
 go_wp2
 go_loopw [4, 5, 6, 7, 8] (fun _ _ _ _ _ wr => ∃ qs, Hid (Shd w wr b c S' most e tot ps qs)) (fun _ _ _ _ _ wr => lenC wr c)
 case atStart => exact ⟨ps, H0⟩
 case round =>
  obtain ⟨qs, H⟩ := hrel
  clear H0
  have f1 := H.out.at'.three
  have s1 := H.out.at'
  have l1 := s1.lt
  by_cases h0 : qs = []
  ·subst h0
   go_wp2_with fail
   refine (sends_any c S' most [] wr H.out.st).mono ?_
   rintro r w1 ⟨rfl, hb⟩
   rw [show endsV [] = .tuple #[.int .i64 0, .int .i64 0, .bool false] from rfl]
   have HR : Hid (At w1 b #[.int .i64 most, .pointer (some ⟨c, 0, none⟩), .int .u64 (tot - sumP (near sd most e ps))] 263 ∧ Strip w1 c S' most (near sd most e ps) ∧ Frame (b :: S') w w1) := by
    have := H.out.nr
    rw [near_nil] at this
    rw [← this]
    exact ⟨s1.below hb, H.out.st.below hb, H.out.fr.trans (Frame.of_below hb)⟩
   clear hb
   go_wp2
   exact bodyPost_ret (v := .tuple #[]) (by simp [results, Tryz.f149, go_sem]) rfl ⟨rfl, HR.out⟩
  ·go_wp2_with fail
   refine (sends_any c S' most qs wr H.out.st).mono ?_
   rintro r w1 ⟨rfl, hb⟩
   rw [endsV_ne h0]
   have H1 : Hid (Shd w w1 b c S' most e tot ps qs) := ⟨H.out.nb, s1.below hb, H.out.st.below hb, H.out.nr, H.out.sm, H.out.fr.trans (Frame.of_below hb)⟩
   have HMS : Hid (lenC wr c = qs.length) := H.out.st.lenC
   have hfar : (qs.getD (farI sd qs) (0, 0)).1 = (qs.getD (qs.length - 1) (0, 0)).1 := rfl
   obtain ⟨x, hx⟩ : ∃ x, (qs.getD (farI sd qs) (0, 0)).1 = x := ⟨_, rfl⟩
   obtain ⟨y, hy⟩ : ∃ y, (qs.getD 0 (0, 0)).1 = y := ⟨_, rfl⟩
   have HX := Lib.hid hx
   have HB := Lib.hid (show -9223372036854775808 ≤ x ∧ x ≤ 9223372036854775807 from by rw [← hx]; exact (H.out.st.ok _ (getD_mem' (farI_lt h0))).1)
   rw [hx] at hfar
   rw [← hfar, hy]
   clear hb hx hy hfar
   go_wp2_with fail
   refine (lout_any b (b :: S') most (tot - sumP qs) x e qs w1 ⟨c, S', rfl, H1.out.nb, H1.out.at', H1.out.st⟩ HM.out HB.out HE.out).mono ?_
   rintro r w2 ⟨rfl, rfl⟩
   by_cases hg : most ≤ gap sd e x
   ·rw [decide_eq_true hg]
    have HG := Lib.hid hg
    clear hg
    have f2 := H1.out.at'.three
    have l2 := H1.out.at'.lt
    clear f1 s1 l1
    go_wp2_with fail
    refine (slast_any c S' most qs w1 H1.out.st).mono ?_
    rintro r w3 ⟨rfl, hS3, hF3⟩
    rw [if_neg (ne_len.2 h0)] at hS3
    have s3 := hF3.at H1.out.at' H1.out.nb
    have l3 := s3.lt
    obtain ⟨z, hz⟩ : ∃ z, (qs.getD (farI sd qs) (0, 0)).2 = z := ⟨_, rfl⟩
    have HV : Hid (outV qs (qs.length - 1) = .tuple #[.agg #[.int .i64 x, .int .u64 z], .bool true]) := by
     show _ = _
     unfold outV
     rw [if_neg (ne_len.2 h0), ← hz, ← HX.out]
     rfl
    rw [HV.out]
    obtain ⟨lo, hlo⟩ : ∃ lo, tot - sumP qs = lo := ⟨_, rfl⟩
    have hsm := sumP_outF (farI_lt (s := sd) h0)
    rw [hz] at hsm
    have hzz := H1.out.st.gd.pos _ (getD_mem' (farI_lt (s := sd) h0))
    rw [hz] at hzz
    have hs0 := sumP_nonneg (gd_outF H1.out.st.gd (farI sd qs)).pos
    have hw : IntKind.u64.wrap (lo + z) = lo + z := by have := H1.out.sm; have := HT.out; simp only [IntKind.wrap_u64]; omega
    have H3 : Hid (Shd w (((w3.setCell ⟨b, 2, none⟩ (.int .u64 (lo + z))).alloc (.cells #[.int .i64 x, .int .u64 z] 247)).drew) b c S' most e tot ps (outF qs (farI sd qs))) := by
     have hsq := H1.out.sm
     have hbl : ∀ W : World, Below W.heap.size W ((W.alloc (.cells #[.int .i64 x, .int .u64 z] 247)).drew) := fun W => ((Below.refl _ _).alloc (Nat.le_refl _) _).drew
     refine ⟨H1.out.nb, ?_, (hS3.frame (Frame.set [b] _ b 2 _ (by simp)) (fun k hk e => by simp at e; subst e; exact H1.out.nb hk)).below (hbl _), ?_, by omega, ?_⟩
     ·rw [show tot - sumP (outF qs (farI sd qs)) = lo + z by omega]
      exact (s3.set_any 2 _ rfl).below (hbl _)
     ·rw [near_out (farI sd qs) (farI_lt h0) (by rw [HX.out]; exact HG.out)]
      exact H1.out.nr
     ·exact ((H1.out.fr.trans (hF3.mono fun k hk => by simp [hk])).setc (.inl (by simp)) 2 _).trans (Frame.of_below (hbl _))
    have HL : Hid ((outF qs (farI sd qs)).length < qs.length) := by
     have := outF_length (farI_lt (s := sd) h0)
     have := List.length_pos_iff.2 h0
     show _ < _
     omega
    rw [hlo] at s3
    have f3 := (s3.alloc (.cells #[.int .i64 x, .int .u64 z] 247)).three
    clear s3 hS3 hF3 hlo hz hsm hzz hs0 H f2 l2
    go_wp2
    go_region
    go_wp2
    go_roundw
    case rel => exact ⟨_, H3⟩
    case measure => rw [H3.out.st.lenC, HMS.out]; exact HL.out
   ·rw [decide_eq_false hg]
    have HR : Hid (At w1 b #[.int .i64 most, .pointer (some ⟨c, 0, none⟩), .int .u64 (tot - sumP (near sd most e ps))] 263 ∧ Strip w1 c S' most (near sd most e ps) ∧ Frame (b :: S') w w1) := by
     have := H1.out.nr
     rw [near_all H1.out.st.gd (by rw [HX.out]; omega)] at this
     rw [← this]
     exact ⟨H1.out.at', H1.out.st, H1.out.fr⟩
    clear hg
    go_wp2
    exact bodyPost_ret (v := .tuple #[]) (by simp [results, Tryz.f149, go_sem]) rfl ⟨rfl, HR.out⟩
def LadR (b : Nat) (S : List Nat) (most : Int) (ps : List (Int × Int)) (tot q cc : Int) (w w' : World) : Prop :=
 ∃ S', GrownS S S' w.heap.size ∧ High w' b S' most (capRow sd most ps q cc) (tot + cc) ∧ Frame S w w'
theorem lput_add {w w1 w2 : World} {b c : Nat} {S' : List Nat} {most tot q cc : Int} {ps : List (Int × Int)} {e : Ending} (h : High w b (b :: S') most ps tot) (hf : Frame (b :: S') w w1) (hn : b ∉ S')
  (h1 : At w1 b #[.int .i64 most, .pointer (some ⟨c, 0, none⟩), .int .u64 (tot - sumP (near sd most q ps))] 263) (hq : ¬ (ps.length ≠ 0 ∧ most ≤ gap sd (endP sd ps) q)) (hc : 0 < cc) (ht : tot + cc ≤ 9223372036854775807)
  (hs : SadR c S' most (near sd most q ps) q cc w1 e w2) : e = .returned (.int .i64 0) ∧ LadR b (b :: S') most ps tot q cc w w2 := by
 have h2 : cnt ps q + cc < 18446744073709551616 := by have := cnt_le_sumP h.gd.pos q; have := h.lo; omega
 have h3 := near_room (s := sd) h.gd h.win h.m1 hc (by have := h.lo; omega) hq
 have hng := near_gd (s := sd) (most := most) (e := q) h.gd
 have hnc : cnt (near sd most q ps) q + cc < 18446744073709551616 := near_small h.gd h2
 obtain ⟨rfl, S2, g2, hS2, hF2⟩ := hs
 unfold stStep at hS2
 rw [if_pos ⟨hc, h3⟩, ← capRow_no hq] at hS2
 have hsum := sumP_rowAdd hng hc hnc
 rw [← capRow_no hq] at hsum
 refine ⟨by unfold stCode; rw [if_pos hc, if_pos h3], b :: S2, fun k hk => ?_, ⟨⟨c, S2, rfl, fun hb => ?_, ?_, hS2⟩, capRow_win h.gd h.win h.m1 hc h2, h.m1, ?_, ht⟩, hf.trans (hF2.mono fun k hk => by simp [hk])⟩
 ·rcases List.mem_cons.1 hk with rfl | hk
  ·exact .inl (by simp)
  ·rcases g2 k hk with h | h
   ·exact .inl (by simp [h])
   ·exact .inr (Nat.le_trans hf.size h)
 ·rcases g2 b hb with h | h
  ·exact hn h
  ·have := h1.lt; omega
 ·rw [show tot + cc - sumP (capRow sd most ps q cc) = tot - sumP (near sd most q ps) by omega]
  exact hF2.at h1 hn
 ·have := (near_sum (s := sd) (most := most) (e := q) h.gd).2
  have := h.lo
  omega
set_option maxRecDepth 100000 in
theorem lput_any (b : Nat) (S : List Nat) (most tot q cc : Int) (ps : List (Int × Int)) (w : World) (h : High w b S most ps tot) (hc : 0 < cc) (ht : tot + cc ≤ 9223372036854775807) (hq : -9223372036854775808 ≤ q ∧ q ≤ 9223372036854775807) :
  Calls Tryz.prog 141 #[.pointer (some ⟨b, 0, none⟩), .int .i64 q, .int .u64 cc] w fun r w' => r = .returned (.tuple #[]) ∧ LadR b S most ps tot q cc w w' := by
 have H := Lib.hid h
 have HM : Hid (1 ≤ most ∧ most ≤ 4096) := ⟨h.m1, h.most4⟩
 have HO := Lib.hid h.ok
 have HG := Lib.hid h.gd
 have HCT : Hid (0 < cc ∧ tot + cc ≤ 9223372036854775807 ∧ 0 ≤ sumP ps ∧ sumP ps ≤ tot) := ⟨hc, ht, h.sum0, h.lo⟩
 have HQ := Lib.hid hq
 obtain ⟨⟨c, S', rfl, hbn, s1, hS⟩, _⟩ := id h
 have HBN := Lib.hid hbn
 have HS := Lib.hid hS
 have HSA := Lib.hid (fun (p : List (Int × Int)) (W : World) (hW : Strip W c S' most p) => sadd_any c S' most p q cc W hW (Int.le_of_lt hc) (by have := h.lo; have := h.sum0; omega) hq)
 have HR := Lib.hid h.r
 clear hS hbn hc ht hq h
 by_cases h0 : ps = []
 ·subst h0
  have HNQ : Hid (¬ (([] : List (Int × Int)).length ≠ 0 ∧ most ≤ gap sd (endP sd []) q)) := fun k => k.1 rfl
  go_enter Tryz.func141, Tryz.ntmps141
  go_wp2_with fail
  refine (lend_any b _ most _ [] w HR.out).mono ?_
  rintro r w1 ⟨rfl, hb⟩
  rw [show endV sd [] = .tuple #[.int .i64 0, .bool false] from rfl]
  have HF := Lib.hid (Frame.of_below hb (S := b :: S'))
  have s2 := s1.below hb
  have HS2 := Lib.hid (HS.out.below hb)
  have f2 := s2.three
  have l2 := s2.lt
  clear s1 HR hb
  go_wp2_with fail
  refine (HSA.out [] w1 HS2.out).mono ?_
  intro r w2 hR
  obtain ⟨rfl, hL⟩ := lput_add H.out HF.out HBN.out s2 HNQ.out HCT.out.1 HCT.out.2.1 hR
  clear hR s2
  go_wp2
  exact bodyPost_end (results_none rfl _ _ _) rfl ⟨rfl, hL⟩
 ·have HE := Lib.hid (okP.end' (s := sd) HO.out h0)
  obtain ⟨e, he⟩ : ∃ e, endP sd ps = e := ⟨_, rfl⟩
  have HEE := Lib.hid he
  have HV : Hid (endV sd ps = .tuple #[.int .i64 e, .bool true]) := by show _ = _; unfold endV; rw [if_neg (ne_len.2 h0), he]
  rw [he] at HE
  clear he
  go_enter Tryz.func141, Tryz.ntmps141
  go_wp2_with fail
  refine (lend_any b _ most _ ps w HR.out).mono ?_
  rintro r w1 ⟨rfl, hb⟩
  rw [HV.out]
  have HF := Lib.hid (Frame.of_below hb (S := b :: S'))
  have s2 := s1.below hb
  have HS2 := Lib.hid (HS.out.below hb)
  have f2 := s2.three
  have l2 := s2.lt
  clear s1 HR hb
  go_wp2_with fail
  refine (lout_any b (b :: S') most (tot - sumP ps) q e ps w1 ⟨c, S', rfl, HBN.out, s2, HS2.out⟩ HM.out HQ.out HE.out).mono ?_
  rintro r w2 ⟨rfl, rfl⟩
  by_cases hg : most ≤ gap sd e q
  ·rw [decide_eq_true hg]
   obtain ⟨lo, hlo⟩ : ∃ lo, tot - sumP ps = lo := ⟨_, rfl⟩
   have hw : IntKind.u64.wrap (lo + cc) = lo + cc := by have := HCT.out; simp only [IntKind.wrap_u64]; omega
   have HL : Hid (LadR b (b :: S') most ps tot q cc w (w1.setCell ⟨b, 2, none⟩ (.int .u64 (lo + cc)))) := by
    refine ⟨b :: S', GrownS.refl _ _, ?_, HF.out.setc (.inl (by simp)) 2 _⟩
    rw [capRow_yes (ne_len.2 h0) (by rw [HEE.out]; exact hg)]
    have e1 : tot + cc - sumP ps = lo + cc := by omega
    refine ⟨?_, H.out.win, HM.out.1, by have := HCT.out; omega, HCT.out.2.1⟩
    rw [e1]
    exact HighR.set (lost := tot - sumP ps) ⟨c, S', rfl, HBN.out, s2, HS2.out⟩
   rw [hlo] at f2
   clear hlo hg s2
   go_wp2
   exact bodyPost_ret (results_none rfl _ _ _) rfl ⟨rfl, HL.out⟩
  ·rw [decide_eq_false hg]
   have HNQ : Hid (¬ (ps.length ≠ 0 ∧ most ≤ gap sd (endP sd ps) q)) := fun k => hg (by rw [← HEE.out]; exact k.2)
   by_cases hlt : q < e
   ·clear hg
    go_wp2_with fail
    refine (lshed_any b c S' most tot q ps w1 HBN.out s2 HS2.out HM.out HQ.out HCT.out.2.2.2 (by have := HCT.out; omega)).mono ?_
    rintro r w3 ⟨rfl, s3, hS3, hF3⟩
    have HF3 := Lib.hid (HF.out.trans hF3)
    have HS3 := Lib.hid hS3
    have f3 := s3.three
    have l3 := s3.lt
    clear s2 f2 l2 hS3 hF3
    go_wp2_with fail
    refine (HSA.out _ w3 HS3.out).mono ?_
    intro r w2 hR
    obtain ⟨rfl, hL⟩ := lput_add H.out HF3.out HBN.out s3 HNQ.out HCT.out.1 HCT.out.2.1 hR
    clear hR s3
    go_wp2
    exact bodyPost_end (results_none rfl _ _ _) rfl ⟨rfl, hL⟩
   ·have HN : Hid (near sd most q ps = ps) := near_self HG.out H.out.win (by rw [HEE.out]; show 0 ≤ q - e; omega)
    clear hg
    go_wp2_with fail
    refine (HSA.out ps w1 HS2.out).mono ?_
    intro r w2 hR
    obtain ⟨rfl, hL⟩ := lput_add H.out HF.out HBN.out (by rw [HN.out]; exact s2) HNQ.out HCT.out.1 HCT.out.2.1 (by rw [HN.out]; exact hR)
    clear hR s2
    go_wp2
    exact bodyPost_end (results_none rfl _ _ _) rfl ⟨rfl, hL⟩
theorem ladd_full (b : Nat) (S : List Nat) (most tot q cc : Int) (ps : List (Int × Int)) (w : World) (h : High w b S most ps tot) (hc : 0 < cc) (hc' : cc < 18446744073709551616) (ht : 9223372036854775807 < tot + cc) :
  Calls Tryz.prog 132 #[.pointer (some ⟨b, 0, none⟩), .int .i64 q, .int .u64 cc] w fun e w' => e = .returned (.int .i64 6) ∧ Below w.heap.size w w' := by
 have HT := Lib.hid (ltotal_any b S most tot ps w h)
 have H0 : Hid (0 < cc ∧ cc < 18446744073709551616 ∧ 0 ≤ tot ∧ tot ≤ 9223372036854775807) := ⟨hc, hc', by have := h.sum0; have := h.lo; omega, h.hi⟩
 have hcc : (cc == 0) = false := beq_eq_false_iff_ne.2 (by omega)
 obtain ⟨p1, p2⟩ := plus2_no (a := tot) (b := cc) (by omega)
 have HP := Lib.hid (And.intro p1 p2)
 clear h hc hc' ht p1 p2
 go_enter Tryz.func132, Tryz.ntmps132
 go_wp2_with fail
 refine HT.out.mono ?_
 rintro e w1 ⟨rfl, hb⟩
 go_wp2_with fail
 have a1 := At.new w1 #[.int .u64 tot, .int .u64 cc] 23
 refine (plus2_any w1.heap.size tot cc _ (by have := H0.out; omega) (by have := H0.out; omega) (by have := H0.out; omega) (by have := H0.out; omega) (a1.cell rfl) (a1.cell rfl)).mono ?_
 rintro e w2 ⟨rfl, rfl⟩
 have z1 := hb.size
 rw [HP.out.1, HP.out.2]
 clear a1
 go_wp2
 go_ret
 exact ⟨rfl, (by repeat (first | with_reducible assumption | with_reducible exact Below.refl _ _ | with_reducible refine Below.drew ?_ | with_reducible refine Below.drewN ?_ _ | with_reducible refine Below.setCell ?_ (by first | omega | (simp; done) | (simp; omega)) _ | with_reducible refine Below.alloc ?_ (by first | omega | (simp; done) | (simp; omega) | (simp [World.setCell]; omega)) _))⟩
theorem ladd_any (b : Nat) (S : List Nat) (most tot q cc : Int) (ps : List (Int × Int)) (w : World) (h : High w b S most ps tot) (hc : 0 < cc) (ht : tot + cc ≤ 9223372036854775807) (hq : -9223372036854775808 ≤ q ∧ q ≤ 9223372036854775807) :
  Calls Tryz.prog 132 #[.pointer (some ⟨b, 0, none⟩), .int .i64 q, .int .u64 cc] w fun e w' => e = .returned (.int .i64 0) ∧ LadR b S most ps tot q cc w w' := by
 have HT := Lib.hid (ltotal_any b S most tot ps w h)
 have H0 : Hid (0 < cc ∧ cc < 18446744073709551616 ∧ 0 ≤ tot ∧ tot ≤ 9223372036854775807) := ⟨hc, by have := h.sum0; have := h.lo; omega, by have := h.sum0; have := h.lo; omega, h.hi⟩
 have hcc : (cc == 0) = false := beq_eq_false_iff_ne.2 (by omega)
 obtain ⟨p1, p2⟩ := plus2_yes (a := tot) (b := cc) (by omega)
 have HP := Lib.hid (And.intro p1 p2)
 have HPUT := Lib.hid (fun (W : World) (hb : Below w.heap.size w W) => lput_any b S most tot q cc ps W (h.below hb) hc ht hq)
 clear h hc ht hq p1 p2
 go_enter Tryz.func132, Tryz.ntmps132
 go_wp2_with fail
 refine HT.out.mono ?_
 rintro e w1 ⟨rfl, hb⟩
 go_wp2_with fail
 have a1 := At.new w1 #[.int .u64 tot, .int .u64 cc] 23
 refine (plus2_any w1.heap.size tot cc _ (by have := H0.out; omega) (by have := H0.out; omega) (by have := H0.out; omega) (by have := H0.out; omega) (a1.cell rfl) (a1.cell rfl)).mono ?_
 rintro e w2 ⟨rfl, rfl⟩
 have z1 := hb.size
 rw [HP.out.1, HP.out.2]
 have hB2 : Below w.heap.size w (w1.alloc (.cells #[.int .u64 tot, .int .u64 cc] 23)) := (by repeat (first | with_reducible assumption | with_reducible exact Below.refl _ _ | with_reducible refine Below.drew ?_ | with_reducible refine Below.drewN ?_ _ | with_reducible refine Below.setCell ?_ (by first | omega | (simp; done) | (simp; omega)) _ | with_reducible refine Below.alloc ?_ (by first | omega | (simp; done) | (simp; omega) | (simp [World.setCell]; omega)) _))
 have HB := Lib.hid hB2
 clear a1 hb hB2
 go_wp2_with fail
 refine (HPUT.out _ HB.out).mono ?_
 rintro e w3 ⟨rfl, S', hg, hL, hF⟩
 have HL : Hid (LadR b S most ps tot q cc w w3) := ⟨S', fun k hk => (hg k hk).imp id (fun h => Nat.le_trans HB.out.size h), hL, (Frame.of_below HB.out).trans hF⟩
 clear hg hL hF
 go_wp2
 go_ret
 exact ⟨rfl, HL.out⟩
end Go.Proofs.YtlbnlmhcpephbaaGreatDoor.Hi
namespace Go.Proofs.YtlbnlmhcpephbaaGreatDoor.Hi
open Go.RowKit
theorem sumP_take_le {ps : List (Int × Int)} (h : ∀ x ∈ ps, 0 < x.2) (k : Nat) : 0 ≤ sumP (ps.take k) ∧ sumP (ps.take k) ≤ sumP ps := by
 have e := congrArg sumP (List.take_append_drop k ps)
 rw [sumP_append] at e
 have h1 := sumP_nonneg (ps := ps.take k) fun x hx => h x (List.mem_of_mem_take hx)
 have h2 := sumP_nonneg (ps := ps.drop k) fun x hx => h x (List.mem_of_mem_drop hx)
 omega
structure Mer (w wr : World) (b : Nat) (S S' : List Nat) (n : Nat) (most tot : Int) (ps : List (Int × Int)) (A : Option Addr) (qs : List (Int × Int)) : Prop where
 low : High wr b S' most ps tot
 gr : GrownS S S' n
 fr : Frame S w wr
 rd : RdP wr A qs
 ap : ∀ k ∈ blk A, k ∉ S'
theorem Mer.step {w wr w' : World} {b : Nat} {S S' : List Nat} {n : Nat} {most tot q cc : Int} {ps : List (Int × Int)} {A : Option Addr} {qs : List (Int × Int)} (h : Mer w wr b S S' n most tot ps A qs) (hn : n ≤ wr.heap.size) (hw : w.heap.size ≤ n) (hA : ∀ k ∈ blk A, k < wr.heap.size)
  (hL : LadR b S' most ps tot q cc wr w') : ∃ S2, Mer w w' b S S2 n most (tot + cc) (capRow sd most ps q cc) A qs := by
 obtain ⟨S2, g2, hl, hF⟩ := hL
 have hg : GrownS S S2 n := fun k hk => by
  rcases g2 k hk with h1 | h1
  ·exact h.gr k h1
  ·exact .inr (Nat.le_trans hn h1)
 refine ⟨S2, hl, hg, ⟨hF.os.trans h.fr.os, hF.tape.trans h.fr.tape, hF.output.trans h.fr.output, Nat.le_trans h.fr.size hF.size, fun k hk hkS => ?_⟩, ?_, ?_⟩
 ·refine (hF.block k (Nat.lt_of_lt_of_le hk h.fr.size) fun hk' => ?_).trans (h.fr.block k hk hkS)
  rcases h.gr k hk' with h1 | h1
  ·exact hkS h1
  ·omega
 ·refine Frame.rd hF h.rd fun a e => ?_
  exact h.ap _ (by subst e; simp [blk])
 ·intro k hk hk'
  rcases g2 k hk' with h1 | h1
  ·exact h.ap k hk h1
  ·have := hA k hk; omega
set_option maxRecDepth 100000 in
set_option maxHeartbeats 1000000 in
theorem lmerge_any (b o : Nat) (S So : List Nat) (most T U : Int) (ps qs : List (Int × Int)) (w : World) (h : High w b S most ps T) (k : High w o So most qs U) (hT : T + U ≤ 9223372036854775807) :
  Calls Tryz.prog 210 #[.pointer (some ⟨b, 0, none⟩), .pointer (some ⟨o, 0, none⟩)] w fun e w' => e = .returned (.int .i64 0) ∧ ∃ S', GrownS S S' w.heap.size ∧ High w' b S' most (capAll sd most ps qs) (T + U) ∧ Frame S w w' := by
 have H := Lib.hid h
 have K := Lib.hid k
 have HT := Lib.hid (And.intro hT (And.intro h.sum0 (And.intro h.lo (And.intro k.sum0 k.lo))))
 have HOK := Lib.hid k.ok
 have HGQ := Lib.hid k.gd
 have HLN := Lib.hid k.len
 obtain ⟨n, hn⟩ : ∃ n, qs.length = n := ⟨_, rfl⟩
 have HN := Lib.hid hn
 have hlen : n ≤ 4096 := by rw [← hn]; exact k.len.2
 obtain ⟨⟨c, S', _, _, s1, _⟩, _⟩ := id h
 obtain ⟨⟨c2, S2', _, _, t1, _⟩, _⟩ := id k
 have f1 := s1.three
 have g1 := t1.three
 obtain ⟨p1, p2⟩ := plus2_yes (a := T) (b := U) hT
 have HP := Lib.hid (And.intro p1 p2)
 have hU : 0 ≤ U - sumP qs := by have := k.lo; omega
 clear h k hT p1 p2 hn
 go_enter Tryz.func210, Tryz.ntmps210
 go_wp2
 go_quiet (fail)
 have hb0 : Below w.heap.size w (w.drewN nq) := (Below.refl _ _).drewN _
 go_wp2_with fail
 refine (ltotal_any b S most T ps _ (H.out.below hb0)).mono ?_
 rintro e w1 ⟨rfl, hb⟩
 have hb1 := keep1 hb0 hb
 have z1 := hb1.size
 clear hb hb0
 go_wp2_with fail
 refine (ltotal_any o So most U qs _ (K.out.below hb1)).mono ?_
 rintro e w2 ⟨rfl, hb⟩
 have hb2 := keep1 hb1 hb
 have z2 := hb2.size
 clear hb hb1 z1
 go_wp2_with fail
 have a1 := At.new w2 #[.int .u64 T, .int .u64 U] 23
 refine (plus2_any w2.heap.size T U _ (by have := HT.out; omega) (by have := HT.out; omega) (by have := HT.out; omega) (by have := HT.out; omega) (a1.cell rfl) (a1.cell rfl)).mono ?_
 rintro e w3 ⟨rfl, rfl⟩
 rw [HP.out.1, HP.out.2]
 have hb3 : Below w.heap.size w (w2.alloc (.cells #[.int .u64 T, .int .u64 U] 23)) := (by repeat (first | with_reducible assumption | with_reducible exact Below.refl _ _ | with_reducible refine Below.drew ?_ | with_reducible refine Below.drewN ?_ _ | with_reducible refine Below.setCell ?_ (by first | omega | (simp; done) | (simp; omega)) _ | with_reducible refine Below.alloc ?_ (by first | omega | (simp; done) | (simp; omega) | (simp [World.setCell]; omega)) _))
 have t3 := t1.below hb3
 obtain ⟨W3, hW3⟩ : ∃ W3, w2.alloc (.cells #[.int .u64 T, .int .u64 U] 23) = W3 := ⟨_, rfl⟩
 rw [hW3] at hb3 t3 ⊢
 have g3 := t3.three
 have l3 := t3.lt
 clear a1 hW3 hb2 z2 f1 g1 t1 s1
 go_wp2_with fail
 obtain ⟨⟨c3, S3', _, _, t4, hS4⟩, _⟩ := K.out.below hb3
 have e3 := t4.symm.trans t3
 simp only [Option.some.injEq, Obj.cells.injEq] at e3
 have e4 := e3.1
 simp at e4
 subst e4
 refine (spairs_any _ S3' most qs _ hS4).mono ?_
 rintro e w5 ⟨A, cap, rfl, ho, hb⟩
 rw [HN.out]
 have hb5 := keep1 hb3 hb
 have z5 := hb5.size
 have HA : Hid (∀ k ∈ blk A, w.heap.size ≤ k ∧ k < w5.heap.size) := fun k hk => by
  cases A with
  | none => simp [blk] at hk
  | some a => simp only [blk, List.mem_singleton] at hk; subst hk; have := ho.base_le a rfl; have := hb3.size; omega
 have HM : Hid (Mer w w5 b S S w5.heap.size most T ps A qs) := ⟨H.out.below hb5, GrownS.refl _ _, Frame.of_below hb5, ho.rd, fun k hk hk' => by have := (HA.out k hk).1; have := H.out.lt k hk'; omega⟩
 obtain ⟨B5, hB5⟩ : ∃ B5, w5.heap.size = B5 := ⟨_, rfl⟩
 have HZ : Hid (w.heap.size ≤ B5 ∧ B5 ≤ w5.heap.size) := by show _ ∧ _; omega
 rw [hB5] at HM HA
 clear hb ho hb3 g3 t3 l3 hS4 t4 e3 hb5 z5 hB5
 go_wp2
 go_loopw [9, 48] (fun _ i wr => ∃ j : Nat, ∃ S2, j ≤ n ∧ i = .int .i64 j ∧ Hid (Mer w wr b S S2 B5 most (T + sumP (qs.take j)) (capAll sd most ps (qs.take j)) A qs ∧ B5 ≤ wr.heap.size)) (fun _ i _ => n - (intOf i).toNat)
 case atStart => exact ⟨0, S, by omega, rfl, by rw [List.take_zero, sumP_nil, Int.add_zero]; exact ⟨HM.out, HZ.out.2⟩⟩
 case round =>
  obtain ⟨j, S2, hj, rfl, HJ⟩ := hrel
  clear HM
  by_cases hjt : j < n
  ·obtain ⟨g, o', rfl, hg, c1, c2'⟩ := RdP.at HJ.out.1.rd j (by have := HN.out; omega)
   obtain ⟨⟨b1, b2⟩, b3, b4⟩ := HOK.out.at j (by have := HN.out; omega)
   have HS := Lib.hid (sumP_take qs j (by have := HN.out; omega))
   have HC := Lib.hid (capAll_take (s := sd) (most := most) ps qs j (by have := HN.out; omega))
   have HX := Lib.hid (HGQ.out.pos _ (List.getElem_mem (show j < qs.length by have := HN.out; omega)))
   have HL := Lib.hid (sumP_take_le HGQ.out.pos (j + 1))
   obtain ⟨⟨x, y⟩, hx⟩ : ∃ x, qs[j]'(by have := HN.out; omega) = x := ⟨_, rfl⟩
   rw [hx] at c1 c2' b1 b2 b3 b4 HS HC HX
   clear hx
   dsimp only at c1 c2' b1 b2 b3 b4 HS HC HX
   have zJ := HJ.out.2
   have hbp : Below wr.heap.size wr (wr.alloc (.cells #[.int .i64 x, .int .u64 y] 247)) := (Below.refl _ _).alloc (Nat.le_refl _) _
   have HJ2 : Hid (Mer w (wr.alloc (.cells #[.int .i64 x, .int .u64 y] 247)) b S S2 B5 most (T + sumP (qs.take j)) (capAll sd most ps (qs.take j)) (some ⟨g, o', none⟩) qs) :=
    ⟨HJ.out.1.low.below hbp, HJ.out.1.gr, HJ.out.1.fr.trans (Frame.of_below hbp), HJ.out.1.rd.below hbp, HJ.out.1.ap⟩
   clear HJ
   go_wp2_with fail
   refine (lput_any b S2 most _ x y _ _ HJ2.out.low HX.out (by have := HS.out; have := HL.out; have := HT.out; omega) ⟨b1, b2⟩).mono ?_
   rintro e w6 ⟨rfl, hL⟩
   have z6 : B5 ≤ w6.heap.size := by obtain ⟨_, _, _, hF⟩ := hL; have := hF.size; have := hbp.size; omega
   obtain ⟨S3, H3⟩ := HJ2.out.step (by have := hbp.size; omega) HZ.out.1 (fun k hk => by have := (HA.out k hk).2; have := hbp.size; omega) hL
   rw [← HC.out, Int.add_assoc, ← HS.out] at H3
   have H3' := Lib.hid (And.intro H3 z6)
   clear hL H3 z6 HJ2 hbp zJ
   go_wp2
   go_roundw
   case rel => exact ⟨j + 1, S3, by omega, by simp, H3'⟩
   case measure => simp [intOf]; omega
  ·obtain rfl : j = n := by omega
   have H1 := HJ.out.1
   rw [List.take_of_length_le (by have := HN.out; omega)] at H1
   have HL := Lib.hid H1
   have hs0 := H1.low.sum0
   have hlo := H1.low.lo
   have hhi := H1.low.hi
   obtain ⟨⟨c4, S4', rfl, hn4, t4, hS4⟩, hwin, hm1, _, _⟩ := H1.low
   obtain ⟨lo, hlo'⟩ : ∃ lo, T + sumP qs - sumP (capAll sd most ps qs) = lo := ⟨_, rfl⟩
   obtain ⟨uo, huo⟩ : ∃ uo, U - sumP qs = uo := ⟨_, rfl⟩
   have hw : IntKind.u64.wrap (lo + uo) = lo + uo := by have := HT.out; simp only [IntKind.wrap_u64]; omega
   have HR : Hid (High (wr.setCell ⟨b, 2, none⟩ (.int .u64 (lo + uo))) b (b :: S4') most (capAll sd most ps qs) (T + U)) := by
    refine ⟨?_, hwin, hm1, by omega, HT.out.1⟩
    rw [show T + U - sumP (capAll sd most ps qs) = lo + uo by omega]
    exact HighR.set (lost := _) ⟨c4, S4', rfl, hn4, t4, hS4⟩
   have HF : Hid (Frame S w (wr.setCell ⟨b, 2, none⟩ (.int .u64 (lo + uo)))) := HL.out.fr.setc (.inl H.out.r.mem) 2 _
   have HGR : Hid (GrownS S (b :: S4') w.heap.size) := fun k hk => (HL.out.gr k hk).imp id fun h => Nat.le_trans HZ.out.1 h
   rw [hlo'] at t4
   rw [huo]
   have f4 := t4.three
   have l4 := t4.lt
   clear HL HJ H1 hwin t4 hS4 hs0 hlo hhi hlo' huo
   go_wp2
   go_ret
   exact ⟨rfl, _, HGR.out, HR.out, HF.out⟩
end Go.Proofs.YtlbnlmhcpephbaaGreatDoor.Hi
namespace Go.Proofs.YtlbnlmhcpephbaaGreatDoor.Hi
open Go.RowKit
def lowFind (_ : Int) (ps : List (Int × Int)) (t : Int) : Option Int := findP t 0 ps
theorem lfind_any (b : Nat) (S : List Nat) (most tot t : Int) (ps : List (Int × Int)) (w : World) (h : High w b S most ps tot) (ht : 0 ≤ t ∧ t < 18446744073709551616) :
  Calls Tryz.prog 391 #[.pointer (some ⟨b, 0, none⟩), .int .u64 t] w fun e w' => e = .returned (optI (lowFind (tot - sumP ps) ps t)) ∧ Below w.heap.size w w' := by
 obtain ⟨⟨c, S', _, _, s1, hS⟩, _⟩ := h
 have HC := Lib.hid (sfind_any c S' most ps t w hS ht)
 obtain ⟨lo, hlo⟩ : ∃ lo, tot - sumP ps = lo := ⟨_, rfl⟩
 rw [hlo] at s1 ⊢
 have f1 := s1.three
 obtain ⟨fi, hfi⟩ : ∃ fi, (findP t 0 ps).getD 0 = fi := ⟨_, rfl⟩
 obtain ⟨fb, hfb⟩ : ∃ fb, (findP t 0 ps).isSome = fb := ⟨_, rfl⟩
 have HOP : Hid (optI (findP t 0 ps) = .tuple #[.int .i64 fi, .bool fb]) := by show _ = _; unfold optI; rw [hfi, hfb]
 have HV : Hid (optI (lowFind lo ps t) = .tuple #[.int .i64 fi, .bool fb]) := HOP
 clear hS hlo hfi hfb ht
 go_enter Tryz.func391, Tryz.ntmps391
 go_wp2_with fail
 refine HC.out.mono ?_
 rintro e w1 ⟨rfl, rfl⟩
 rw [HOP.out]
 go_wp2
 go_ret2
 exact ⟨by rw [HV.out]; rfl, Below.refl _ _⟩
def lowBelow (most lo : Int) (ps : List (Int × Int)) (q : Int) : Int × Int := if ps.length ≠ 0 ∧ most ≤ q - endP sd ps then (upto ps q, upto ps q + lo) else (upto ps q, upto ps q)
end Go.Proofs.YtlbnlmhcpephbaaGreatDoor.Hi
namespace Go.Proofs.YtlbnlmhcpephbaaGreatDoor.Hi
open Go.RowKit
theorem addAll_nil {rs : List (Int × Int)} (h : Gd rs) (hs : sumP rs < 18446744073709551616) : addAll [] rs = rs := by
 obtain ⟨a, _, c⟩ := addAll_spec (l := rs) Gd.nil h.pos (by rw [sumP_nil]; omega)
 exact Gd.ext a h fun i => by rw [c, cnt_nil]; omega
theorem capAll_nil {s : Bool} {most : Int} {rs : List (Int × Int)} (hm : 1 ≤ most) (h : Gd rs) (hs : sumP rs < 18446744073709551616) : capAll s most [] rs = keptP s most rs := by
 have := capAll_kept (s := s) hm Gd.nil h.pos (by rw [sumP_nil]; omega)
 rw [addAll_nil h hs] at this
 exact this
theorem filter_sum_eq {p : Int × Int → Bool} : ∀ {rs : List (Int × Int)}, (∀ x ∈ rs, 0 < x.2) → sumP rs ≤ sumP (rs.filter p) → ∀ x ∈ rs, p x = true
 | [], _, _, x, hx => by simp at hx
 | y :: rs, h, hs, x, hx => by
  have h1 := h y (by simp)
  have h2 : ∀ z ∈ rs, 0 < z.2 := fun z hz => h z (by simp [hz])
  have h3 := (sumP_filter_le h2 p).2
  rw [sumP_cons, List.filter_cons] at hs
  by_cases hy : p y = true
  ·rw [if_pos hy, sumP_cons] at hs
   rcases List.mem_cons.1 hx with rfl | hx
   ·exact hy
   ·exact filter_sum_eq h2 (by omega) x hx
  ·rw [if_neg hy] at hs
   omega
theorem win_of_sum {s : Bool} {most : Int} {rs : List (Int × Int)} (h : Gd rs) (hs : sumP rs ≤ sumP (keptP s most rs)) : Win s most rs := fun x hx =>
 of_decide_eq_true (filter_sum_eq (p := fun x => decide (gap s (endP s rs) x.1 < most)) h.pos hs x hx)
structure LoadOk (most : Int) (rs : List (Int × Int)) (lost : Int) : Prop where
 gm : GdM rs
 ln : (rs.length : Int) ≤ most
 sm : sumP rs + lost ≤ 9223372036854775807
 win : Win sd most rs
 em : rs = [] → lost = 0
def LoadR (most : Int) (rs : List (Int × Int)) (lost : Int) (w : World) (e : Ending) (w' : World) : Prop :=
 (LoadOk most rs lost ∧ ∃ b S, e = .returned (.tuple #[.pointer (some ⟨b, 0, none⟩), .int .i64 0]) ∧ Within S w.heap.size w'.heap.size ∧ High w' b S most rs (sumP rs + lost)) ∨
 (¬ LoadOk most rs lost ∧ e = .returned (.tuple #[.pointer none, .int .i64 1]))
theorem LoadR.bad {most : Int} {rs : List (Int × Int)} {lost : Int} {w w' : World} (h : ¬ LoadOk most rs lost) : LoadR most rs lost w (.returned (.tuple #[.pointer none, .int .i64 1])) w' := .inr ⟨h, rfl⟩
set_option maxRecDepth 100000 in
set_option maxHeartbeats 1000000 in
theorem lload_any (A : Option Addr) (len cap : Nat) (rs : List (Int × Int)) (most lost : Int) (w : World) (h1 : 1 ≤ most) (h2 : most ≤ 4096) (hl : rs.length = len) (hm : len ≤ 9223372036854775807) (hR : RdP w A rs) (hok : okP rs) (h3 : 0 ≤ lost) (h4 : lost < 18446744073709551616) :
  Calls Tryz.prog 123 #[.int .i64 most, .slice A len cap, .int .u64 lost] w fun e w' => LoadR most rs lost w e w' ∧ Below w.heap.size w w' := by
 have HR := Lib.hid hR
 have HO := Lib.hid hok
 have HL := Lib.hid (And.intro h3 h4)
 have H1 := Lib.hid (And.intro h1 h2)
 have HN := Lib.hid (lnew_any most w h1 h2)
 have HLN := Lib.hid hl
 clear hR hok h3 h4 h1 h2 hl
 go_enter Tryz.func123, Tryz.ntmps123
 go_wp2_with fail
 refine HN.out.mono ?_
 rintro e w1 ⟨⟨b, S0, rfl, hbw, hWi, hHigh⟩, hb1⟩
 have HT : Hid (Two w.heap.size w w1 S0 [] (High w1 b S0 most [] 0) True) := ⟨hHigh, trivial, hWi, fun k hk => by simp at hk, fun k hk hn => by simp at hn, hb1, hb1.size⟩
 have HB1 := Lib.hid hb1
 clear hbw hWi hHigh hb1 HN
 go_wp2_with fail
 refine (good_any A len cap rs most w1 HLN.out hm (HR.out.below HB1.out) HO.out).mono ?_
 rintro e w2 ⟨⟨bv, rfl, hbv⟩, hb⟩
 have HT2 := Lib.hid (HT.out.belowW hb (fun k => k.below hb) (fun k => k))
 clear hb HT HB1
 cases bv with
 | false =>
  have HBAD : Hid (¬ LoadOk most rs lost) := fun k => by have := hbv.2 ⟨k.gm, by rw [← HLN.out]; exact k.ln⟩; cases this
  clear hbv
  go_wp2
  go_ret2
  exact ⟨LoadR.bad HBAD.out, HT2.out.below⟩
 | true =>
  have HG := Lib.hid (hbv.1 rfl)
  clear hbv
  go_wp2
  go_loopw [11, 28] (fun _ i wr => ∃ k : Nat, ∃ S, k ≤ len ∧ i = .int .i64 k ∧ Hid (Two w.heap.size w wr S [] (High wr b S most (capAll sd most [] (rs.take k)) (sumP (rs.take k))) True)) (fun _ i _ => len - (intOf i).toNat)
  case atStart => exact ⟨0, S0, by omega, rfl, HT2⟩
  case round =>
   obtain ⟨k, S, hk, rfl, H⟩ := hrel
   by_cases hlt : k < len
   ·obtain ⟨g, o, rfl, hg, c1, c2⟩ := (HR.out.below H.out.below).at k (by have := HLN.out; omega)
    obtain ⟨⟨b1, b2⟩, b3, b4⟩ := HO.out.at k (by have := HLN.out; omega)
    have HS := Lib.hid (sumP_take rs k (by have := HLN.out; omega))
    have HC := Lib.hid (capAll_take (s := sd) (most := most) [] rs k (by have := HLN.out; omega))
    have HX := Lib.hid (HG.out.1.gd.pos _ (List.getElem_mem (show k < rs.length by have := HLN.out; omega)))
    obtain ⟨⟨x, y⟩, hx⟩ : ∃ x, rs[k]'(by have := HLN.out; omega) = x := ⟨_, rfl⟩
    rw [hx] at c1 c2 b1 b2 b3 b4 HS HC HX
    clear hx
    dsimp only at c1 c2 b1 b2 b3 b4 HS HC HX
    have zH := H.out.size
    have HZ := fun h : Below wr.heap.size wr (wr.alloc (.cells #[.int .i64 x, .int .u64 y] 247)) => Lib.hid (H.out.belowW h (fun k => k.below h) (fun k => k))
    replace HZ := HZ ((Below.refl _ _).alloc (Nat.le_refl _) _)
    have HB : Hid ((-9223372036854775808 ≤ x ∧ x ≤ 9223372036854775807) ∧ y < 18446744073709551616) := ⟨⟨b1, b2⟩, b4⟩
    clear b1 b2 b3 b4 H HT2
    by_cases hfit : sumP (rs.take k) + y ≤ 9223372036854775807
    ·have HF := Lib.hid hfit
     clear hfit
     go_wp2_with fail
     refine (ladd_any b S most _ x y _ _ HZ.out.x HX.out HF.out HB.out.1).mono ?_
     rintro e w4 ⟨rfl, S3, hg3, hC3, hF3⟩
     have H3 := HZ.out.stepX hg3 hC3 hC3.lt hF3 trivial
     rw [← HS.out, ← HC.out] at H3
     replace H3 := Lib.hid H3
     clear HZ hC3 hF3 hg3
     go_wp2
     go_roundw
     case rel => exact ⟨k + 1, S3, by omega, by simp, H3⟩
     case measure => simp [intOf]; omega
    ·have HF := Lib.hid hfit
     clear hfit
     go_wp2_with fail
     refine (ladd_full b S most _ x y _ _ HZ.out.x HX.out HB.out.2 (by have := HF.out; omega)).mono ?_
     rintro e w4 ⟨rfl, hb4⟩
     have HBAD : Hid (¬ LoadOk most rs lost) := fun k' => by
      have h1 := k'.sm
      have h2 : sumP (rs.take (k + 1)) ≤ sumP rs := by
       have e := congrArg sumP (List.take_append_drop (k + 1) rs)
       rw [sumP_append] at e
       have := sumP_nonneg (ps := rs.drop (k + 1)) (fun x hx => HG.out.1.gd.pos x (List.mem_of_mem_drop hx))
       omega
      have := HS.out; have := HF.out; have := HL.out
      omega
     have HB4 := Lib.hid (HZ.out.fin hb4)
     clear hb4 HZ
     go_wp2
     go_ret2
     exact ⟨LoadR.bad HBAD.out, HB4.out⟩
   ·obtain rfl : k = len := by omega
    have H1' := H.out
    rw [List.take_of_length_le (by have := HLN.out; omega)] at H1'
    have hs64 : sumP rs < 18446744073709551616 := by have := H1'.x.hi; omega
    rw [capAll_nil H1.out.1 HG.out.1.gd hs64] at H1'
    have H2 := Lib.hid H1'
    clear H H1' HT2 hs64
    have HGK := Lib.hid (near_sum (s := sd) (most := most) (e := endP sd rs) HG.out.1.gd)
    go_wp2_with fail
    refine (ltotal_any b S most _ _ wr H2.out.x).mono ?_
    rintro e w3 ⟨rfl, hb⟩
    have H3 := Lib.hid (H2.out.belowW hb (fun k => k.below hb) (fun k => k))
    have HT0 := Lib.hid (And.intro H2.out.x.sum0 (And.intro H2.out.x.lo H2.out.x.hi))
    clear hb H2
    obtain ⟨T, hT⟩ : ∃ T, sumP rs = T := ⟨_, rfl⟩
    have HTT := Lib.hid hT
    rw [hT] at HT0
    have z3 := H3.out.size
    go_wp2_with fail
    have a1 := At.new w3 #[.int .u64 T, .int .u64 lost] 23
    refine (plus2_any w3.heap.size T lost _ (by have := HT0.out; omega) (by have := HT0.out; omega) HL.out.1 HL.out.2 (a1.cell rfl) (a1.cell rfl)).mono ?_
    rintro e w4 ⟨rfl, rfl⟩
    have HB4 := Lib.hid ((Below.refl w3.heap.size w3).alloc (Nat.le_refl _) (.cells #[.int .u64 T, .int .u64 lost] 23))
    have H4 := Lib.hid (H3.out.belowW HB4.out (fun k => k.below HB4.out) (fun k => k))
    clear a1 z3 H3
    obtain ⟨W4, hW4⟩ : ∃ W4, w3.alloc (.cells #[.int .u64 T, .int .u64 lost] 23) = W4 := ⟨_, rfl⟩
    rw [hW4] at H4 ⊢
    clear hW4 HB4
    by_cases hP : T + lost ≤ 9223372036854775807
    ·obtain ⟨p1, p2⟩ := plus2_yes hP
     rw [p1, p2]
     have HP := Lib.hid hP
     clear p1 p2 hP
     obtain ⟨⟨c, S', e0, hbn, s4, hS4⟩, hwin, hm1, hlo, hhi⟩ := H4.out.x
     rw [hT] at s4
     obtain ⟨lo, hlo'⟩ : ∃ lo, T - sumP (keptP sd most rs) = lo := ⟨_, rfl⟩
     rw [hlo'] at s4
     have f4 := s4.three
     have l4 := s4.lt
     rw [hT] at hlo
     by_cases hz : 0 < lo
     ·have HBAD : Hid (¬ LoadOk most rs lost) := fun k' => by
       have := k'.win
       rw [kept_self k'.win] at hlo'
       omega
      clear hS4 hwin hm1 hlo hhi hlo' hT e0 hbn
      go_wp2
      go_ret2
      exact ⟨LoadR.bad HBAD.out, H4.out.below⟩
     ·have hw : Win sd most rs := win_of_sum HG.out.1.gd (by omega)
      have hlo0 : lo = 0 := by omega
      by_cases hem : 0 < lost ∧ k = 0
      ·obtain ⟨he1, rfl⟩ := hem
       have HBAD : Hid (¬ LoadOk most rs lost) := fun k' => by
        have := k'.em (List.eq_nil_of_length_eq_zero HLN.out)
        omega
       clear hS4 hwin hm1 hlo hhi hlo' hT e0 hbn hw hz
       subst hlo0
       go_wp2
       go_ret2
       exact ⟨LoadR.bad HBAD.out, H4.out.below⟩
      ·have HOK : Hid (LoadOk most rs lost) := ⟨HG.out.1, by rw [HLN.out]; exact HG.out.2, by rw [hT]; exact HP.out, hw, fun e => by
        have := HLN.out
        rw [e] at this
        simp at this
        have := HL.out.1
        by_cases h0 : 0 < lost
        ·exact absurd ⟨h0, by omega⟩ hem
        ·omega⟩
       have hke := kept_self hw
       have HRES : Hid (∃ b' S, Ending.returned (.tuple #[.pointer (some ⟨b, 0, none⟩), .int .i64 0]) = .returned (.tuple #[.pointer (some ⟨b', 0, none⟩), .int .i64 0]) ∧ Within S w.heap.size (W4.setCell ⟨b, 2, none⟩ (.int .u64 lost)).heap.size ∧ High (W4.setCell ⟨b, 2, none⟩ (.int .u64 lost)) b' S most rs (sumP rs + lost)) := by
        refine ⟨b, S, rfl, by have := H4.out.ws; intro k hk; have := this k hk; simp [World.setCell]; omega, ?_, hw, hm1, by have := HL.out.1; omega, by rw [hT]; exact HP.out⟩
        rw [show sumP rs + lost - sumP rs = lost by omega]
        rw [hke] at hS4
        subst e0
        exact HighR.set (lost := lo) ⟨c, S', rfl, hbn, s4, hS4⟩
       have HBE : Hid (Below w.heap.size w (W4.setCell ⟨b, 2, none⟩ (.int .u64 lost))) := H4.out.below.setCell (H4.out.ws b (by rw [e0]; simp)).1 _
       clear hS4 hwin hm1 hlo hhi hlo' hT e0 hbn hw hz hke
       subst hlo0
       by_cases h0 : 0 < lost
       ·have hk0 : k ≠ 0 := fun e => hem ⟨h0, e⟩
        clear hem
        go_wp2
        go_ret2
        exact ⟨.inl ⟨HOK.out, HRES.out⟩, HBE.out⟩
       ·clear hem
        go_wp2
        go_ret2
        exact ⟨.inl ⟨HOK.out, HRES.out⟩, HBE.out⟩
    ·obtain ⟨p1, p2⟩ := plus2_no hP
     rw [p1, p2]
     have HBAD : Hid (¬ LoadOk most rs lost) := fun k' => by have := k'.sm; rw [hT] at this; exact hP this
     clear p1 p2 hP hT
     go_wp2
     go_ret2
     exact ⟨LoadR.bad HBAD.out, H4.out.below⟩
end Go.Proofs.YtlbnlmhcpephbaaGreatDoor.Hi
namespace Go.Proofs.YtlbnlmhcpephbaaGreatDoor.Hi
open Go.RowKit
structure DocB (w : World) (m : Nat) (A : Option Addr) (c : Nat) (most : Int) (ps : List (Int × Int)) : Prop where
 at' : At w m #[.int .i64 most, .slice A ps.length c] 440
 own : Own2 0 w A c ps
 ne : m ∉ blk A
def DocL (w : World) (m : Nat) (S : List Nat) (most : Int) (ps : List (Int × Int)) : Prop := ∃ A c, S = m :: blk A ∧ DocB w m A c most ps
section
variable {w w' : World} {b : Nat} {S T : List Nat} {most : Int} {ps : List (Int × Int)}
end
structure DocC (w : World) (m : Nat) (A : Option Addr) (c : Nat) (most : Int) (ps : List (Int × Int)) : Prop where
 at' : At w m #[.int .i64 most, .slice A ps.length c] 440
 rd : RdP w A ps
def DocD (w : World) (m : Nat) (most : Int) (ps : List (Int × Int)) : Prop := ∃ A c, DocC w m A c most ps
theorem kept_near (s : Bool) (most : Int) (ps : List (Int × Int)) : near s most (endP s ps) ps = keptP s most ps := rfl
theorem findP_mem {t : Int} : ∀ {ps : List (Int × Int)} {s i : Int}, findP t s ps = some i → ∃ x ∈ ps, x.1 = i
 | [], _, _, h => by cases h
 | y :: ps, s, i, h => by
  unfold findP at h
  split at h
  ·cases h; exact ⟨y, by simp, rfl⟩
  ·obtain ⟨x, hx, e⟩ := findP_mem h
   exact ⟨x, by simp [hx], e⟩
def keepO (most e : Int) (o : Option Int) : Option Int := match o with
 | some i => if gap sd e i < most then some i else none
 | none => none
def docFind (most : Int) (ps : List (Int × Int)) (t : Int) : Option Int := keepO most (endP sd ps) (findP t 0 ps)
end Go.Proofs.YtlbnlmhcpephbaaGreatDoor.Hi
namespace Go.Proofs.YtlbnlmhcpephbaaGreatDoor.Hi
theorem find_near {most e t : Int} : ∀ {ps : List (Int × Int)} {s : Int}, Gd ps → keepO most e (findP t s ps) = findP t s (near sd most e ps)
 | [], s, _ => rfl
 | x :: ps, s, h => by
  by_cases hx : gap sd e x.1 < most
  ·have hn : near sd most e (x :: ps) = x :: near sd most e ps := by unfold near; rw [List.filter_cons_of_pos (by rw [decide_eq_true_eq]; exact hx)]
   rw [hn]
   unfold findP
   by_cases hc : 0 < t ∧ t ≤ (s + x.2) % 18446744073709551616
   ·rw [if_pos hc, if_pos hc]
    unfold keepO
    dsimp only
    rw [if_pos hx]
   ·rw [if_neg hc, if_neg hc]
    exact find_near h.tail
  ·have hall : ∀ y ∈ x :: ps, ¬ gap sd e y.1 < most := fun y hy => by
    have h1 : gap sd e y.1 = y.1 - e := rfl
    have h2 : gap sd e x.1 = x.1 - e := rfl
    rcases List.mem_cons.1 hy with rfl | hy
    ·exact hx
    ·have := h.head y hy; omega
   have hn : near sd most e (x :: ps) = [] := List.filter_eq_nil_iff.2 fun y hy => by rw [decide_eq_true_eq]; exact hall y hy
   rw [hn]
   cases hf : findP t s (x :: ps) with
   | none => rfl
   | some i =>
    obtain ⟨y, hy, e1⟩ := findP_mem hf
    unfold keepO
    dsimp only
    rw [if_neg (by rw [← e1]; exact hall y hy)]
    rfl
theorem lowFind_doc {most t : Int} {all : List (Int × Int)} (h : Gd all) (_ : sumP all < 18446744073709551616) (_ : 0 ≤ t) :
  lowFind (sumP all - sumP (keptP sd most all)) (keptP sd most all) t = docFind most all t := by
 unfold lowFind docFind
 rw [← kept_near sd most all, find_near h]
end Go.Proofs.YtlbnlmhcpephbaaGreatDoor.Hi

namespace Go.Proofs.YtlbnlmhcpephbaaGreatDoor
open Go.RowKit
def upV (l : List (Int × Int)) (x : Int) : Int := sumP (l.filter fun v => decide (v.1 ≤ x))
def lowV (a : Int) (l : List (Int × Int)) : Int := l.foldl (fun m v => min m v.1) a
def highV (a : Int) (l : List (Int × Int)) : Int := l.foldl (fun m v => max m v.1) a
theorem vsum_filter {l : List (Int × Int)} (h : ∀ x ∈ l, 0 < x.2) (p : Int × Int → Bool) : 0 ≤ sumP (l.filter p) ∧ sumP (l.filter p) ≤ sumP l := by
 induction l with
 | nil => exact ⟨Int.le_refl _, Int.le_refl _⟩
 | cons x l ih =>
  have h1 := ih fun y hy => h y (by simp [hy])
  have h2 := h x (by simp)
  rw [List.filter_cons]
  split
  ·unfold sumP at *; simp only [List.map_cons, List.sum_cons]; omega
  ·unfold sumP at *; simp only [List.map_cons, List.sum_cons]; omega
theorem vsum_take {l : List (Int × Int)} (h : ∀ x ∈ l, 0 < x.2) (k : Nat) : 0 ≤ sumP (l.take k) ∧ sumP (l.take k) ≤ sumP l := by
 have e : sumP l = sumP (l.take k) + sumP (l.drop k) := by
  conv => lhs; rw [← List.take_append_drop k l]
  unfold sumP
  rw [List.map_append, List.sum_append]
 have h1 := vsum_filter (l := l.take k) (fun x hx => h x (List.mem_of_mem_take hx)) (fun _ => true)
 have h2 := vsum_filter (l := l.drop k) (fun x hx => h x (List.mem_of_mem_drop hx)) (fun _ => true)
 omega
theorem up_any (A : Option Addr) (len cap : Nat) (l : List (Int × Int)) (x : Int) (w : World) (hl : l.length = len) (hm : len ≤ 1048576) (hR : RdP w A l) (h : ∀ x ∈ l, 0 < x.2) (hs : sumP l ≤ 9223372036854775807) :
  Calls Tryz.prog 11 #[.slice A len cap, .int .i64 x] w fun e w' => e = .returned (.int .u64 (upV l x)) ∧ Below w.heap.size w w' := by
 have HR := Lib.hid hR
 have H := Lib.hid h
 have HS := Lib.hid hs
 have HL := Lib.hid hl
 clear hR h hs hl
 go_enter Tryz.func11, Tryz.ntmps11
 go_wp2
 go_loopw [5, 7, 10] (fun n _ i wr => ∃ k : Nat, ∃ p : Int, k ≤ len ∧ i = .int .i64 k ∧ n = .int .u64 p ∧ 0 ≤ p ∧ Hid (p = upV (l.take k) x) ∧ Below w.heap.size w wr) (fun _ _ i _ => len - (intOf i).toNat)
 case atStart => exact ⟨0, 0, by omega, rfl, rfl, by omega, rfl, Below.refl _ _⟩
 case round =>
  obtain ⟨k, p, hk, rfl, rfl, hp, HP, hB⟩ := hrel
  have zB := hB.size
  by_cases hlt : k < len
  ·obtain ⟨g, o, rfl, hg, c1, c2⟩ := (HR.out.below hB).at k (by have := HL.out; omega)
   have H1 := Lib.hid (sumP_filter_take l (fun v => decide (v.1 ≤ x)) k (by have := HL.out; omega))
   have H2 := Lib.hid (vsum_filter (l := l.take (k + 1)) (fun x hx => H.out x (List.mem_of_mem_take hx)) (fun v => decide (v.1 ≤ x))).2
   have H3 := Lib.hid (vsum_take H.out (k + 1)).2
   have H4 := Lib.hid (H.out _ (List.getElem_mem (show k < l.length by have := HL.out; omega)))
   obtain ⟨⟨y1, y2⟩, hy⟩ : ∃ y, l[k]'(by have := HL.out; omega) = y := ⟨_, rfl⟩
   rw [hy] at c1 c2 H1 H4
   clear hy HR
   dsimp only at c1 c2 H1 H4
   by_cases ha : y1 ≤ x
   ·rw [if_pos (decide_eq_true ha)] at H1
    have wa : IntKind.u64.wrap (p + y2) = p + y2 := by have h1 := H1.out; have h2 := H2.out; have h3 := HP.out; have h4 := H3.out; have h5 := HS.out; have h6 := H4.out; unfold upV at h3; simp only [IntKind.wrap_u64]; omega
    go_wp2
    go_roundw
    case rel => exact ⟨k + 1, p + y2, by omega, by simp, rfl, by have := H4.out; omega, by have h1 := H1.out; have h2 := HP.out; show _ = _; unfold upV at h2 ⊢; omega, (by repeat (first | with_reducible assumption | with_reducible exact Below.refl _ _ | with_reducible refine Below.drew ?_ | with_reducible refine Below.drewN ?_ _ | with_reducible refine Below.setCell ?_ (by first | omega | (simp; done) | (simp; omega)) _ | with_reducible refine Below.alloc ?_ (by first | omega | (simp; done) | (simp; omega) | (simp [World.setCell]; omega)) _))⟩
    case measure => simp [intOf]; omega
   ·rw [if_neg (by simpa using ha)] at H1
    go_wp2
    go_roundw
    case rel => exact ⟨k + 1, p, by omega, by simp, rfl, hp, by have h1 := H1.out; have h2 := HP.out; show _ = _; unfold upV at h2 ⊢; omega, (by repeat (first | with_reducible assumption | with_reducible exact Below.refl _ _ | with_reducible refine Below.drew ?_ | with_reducible refine Below.drewN ?_ _ | with_reducible refine Below.setCell ?_ (by first | omega | (simp; done) | (simp; omega)) _ | with_reducible refine Below.alloc ?_ (by first | omega | (simp; done) | (simp; omega) | (simp [World.setCell]; omega)) _))⟩
    case measure => simp [intOf]; omega
  ·obtain rfl : k = len := by omega
   have h1 := HP.out
   rw [List.take_of_length_le (by have := HL.out; omega)] at h1
   have H1 := Lib.hid h1
   clear HR HP h1
   go_wp2
   go_ret
   exact ⟨by rw [← H1.out]; rfl, hB⟩
end Go.Proofs.YtlbnlmhcpephbaaGreatDoor

namespace Go.Proofs.YtlbnlmhcpephbaaGreatDoor
theorem sumP_rowAdd_p {ps : List (Int × Int)} {q c : Int} (p : Int → Bool) (h : Gd ps) (hc : 0 < c) (hs : cnt ps q + c < 18446744073709551616) :
  sumP ((rowAdd ps q c).filter fun x => p x.1) = sumP (ps.filter fun x => p x.1) + if p q then c else 0 := by
 have e : sumP (ps.filter fun x => p x.1) = sumP ((ps.filter fun x => decide (x.1 < q)).filter fun x => p x.1) + (if p q then cnt ps q else 0) + sumP ((ps.filter fun x => decide (q < x.1)).filter fun x => p x.1) := by
  rw [sumP_split (ps.filter fun x => p x.1) q, cnt_filter p ps q, List.filter_filter, List.filter_filter, List.filter_filter, List.filter_filter]
  congr 2
  ·congr 1; refine List.filter_congr fun x _ => ?_; rw [Bool.and_comm]
  ·refine List.filter_congr fun x _ => ?_; rw [Bool.and_comm]
 rw [rowAdd_eq h hc hs, e]
 simp only [List.filter_append, sumP_append, List.filter_cons, List.filter_nil]
 cases p q <;> simp [sumP_cons, sumP_nil] <;> omega
theorem sumP_addAll_p (p : Int → Bool) : ∀ {l ps : List (Int × Int)}, Gd ps → (∀ x ∈ l, 0 < x.2) → sumP ps + sumP l < 18446744073709551616 →
  sumP ((addAll ps l).filter fun x => p x.1) = sumP (ps.filter fun x => p x.1) + sumP (l.filter fun x => p x.1)
 | [], ps, _, _, _ => by show _ = _ + sumP []; rw [sumP_nil, Int.add_zero]; rfl
 | x :: l, ps, h, hp, hs => by
  have h1 := hp x (by simp)
  rw [sumP_cons] at hs
  have h3 := sumP_nonneg (ps := l) fun y hy => hp y (by simp [hy])
  have h2 : cnt ps x.1 + x.2 < 18446744073709551616 := by have := cnt_le_sumP h.pos x.1; omega
  show sumP ((addAll (rowAdd ps x.1 x.2) l).filter _) = _
  rw [sumP_addAll_p p (h.rowAdd h1 h2) (fun y hy => hp y (by simp [hy])) (by rw [sumP_rowAdd h h1 h2]; omega), sumP_rowAdd_p p h h1 h2, List.filter_cons]
  cases p x.1 <;> simp [sumP_cons] <;> omega
def sgn (below : Bool) (x : Int) : Bool := decide (x ≠ 0) && (decide (x < 0) == below)
theorem sgn_true (x : Int) : sgn true x = decide (x < 0) := by
 unfold sgn; by_cases h : x < 0
 ·have : x ≠ 0 := by omega
  simp [h, this]
 ·simp [h]
theorem sgn_false (x : Int) : sgn false x = decide (0 < x) := by
 unfold sgn; by_cases h : 0 < x
 ·have h1 : x ≠ 0 := by omega
  have h2 : ¬ x < 0 := by omega
  simp [h, h1, h2]
 ·by_cases h2 : x = 0
  ·simp [h2]
  ·have : x < 0 := by omega
   simp [h, this]
def selV (part : Nat → Int) (below : Bool) (l : List (Int × Int)) : List (Int × Int) := (l.filter fun v => sgn below v.1).map fun v => (part v.1.natAbs, v.2)
def rowV (part : Nat → Int) (below : Bool) (l : List (Int × Int)) : List (Int × Int) := addAll [] (selV part below l)
section
variable {part : Nat → Int} {below : Bool} {l : List (Int × Int)}
theorem rowV_snoc (v : Int × Int) : rowV part below (l ++ [v]) = if sgn below v.1 then rowAdd (rowV part below l) (part v.1.natAbs) v.2 else rowV part below l := by
 unfold rowV selV
 rw [List.filter_append, List.map_append, addAll_append]
 cases h : sgn below v.1 <;> simp [h, addAll]
theorem selV_pos (hp : ∀ v ∈ l, 0 < v.2) : ∀ x ∈ selV part below l, 0 < x.2 := fun x hx => by
 unfold selV at hx
 obtain ⟨v, hv, rfl⟩ := List.mem_map.1 hx
 exact hp v (List.mem_filter.1 hv).1
theorem selV_sum_p (p : Int → Bool) : ∀ l : List (Int × Int), sumP ((selV part below l).filter fun x => p x.1) = sumP (l.filter fun v => sgn below v.1 && p (part v.1.natAbs))
 | [] => rfl
 | v :: l => by
  have ih := selV_sum_p p l
  unfold selV at ih ⊢
  cases h : sgn below v.1
  ·rw [List.filter_cons_of_neg (by simp [h]), ih, List.filter_cons_of_neg (by simp [h])]
  ·rw [List.filter_cons_of_pos (by simp [h]), List.map_cons]
   cases hp : p (part v.1.natAbs)
   ·rw [List.filter_cons_of_neg (by simp [hp]), ih, List.filter_cons_of_neg (by simp [hp])]
   ·rw [List.filter_cons_of_pos (by simp [hp]), sumP_cons, ih, List.filter_cons_of_pos (by simp [h, hp]), sumP_cons]
theorem selV_sum_le (hp : ∀ v ∈ l, 0 < v.2) : 0 ≤ sumP (selV part below l) ∧ sumP (selV part below l) ≤ sumP l := by
 have h := selV_sum_p (part := part) (below := below) (fun _ => true) l
 rw [List.filter_eq_self.2 (fun _ _ => rfl)] at h
 rw [h]
 exact sumP_filter_le hp _
theorem rowV_gd (hp : ∀ v ∈ l, 0 < v.2) (hs : sumP l < 18446744073709551616) : Gd (rowV part below l) :=
 (addAll_spec Gd.nil (selV_pos hp) (by rw [sumP_nil]; have := (selV_sum_le (part := part) (below := below) hp).2; omega)).1
theorem rowV_sum_p (p : Int → Bool) (hp : ∀ v ∈ l, 0 < v.2) (hs : sumP l < 18446744073709551616) : sumP ((rowV part below l).filter fun y => p y.1) = sumP (l.filter fun v => sgn below v.1 && p (part v.1.natAbs)) := by
 unfold rowV
 rw [sumP_addAll_p p Gd.nil (selV_pos hp) (by rw [sumP_nil]; have := (selV_sum_le (part := part) (below := below) hp).2; omega), selV_sum_p]
 show sumP [] + _ = _
 rw [sumP_nil, Int.zero_add]
theorem rowV_sum (hp : ∀ v ∈ l, 0 < v.2) (hs : sumP l < 18446744073709551616) : sumP (rowV part below l) = sumP (l.filter fun v => sgn below v.1) := by
 have := rowV_sum_p (part := part) (below := below) (fun _ => true) hp hs
 rw [List.filter_eq_self.2 (fun _ _ => rfl)] at this
 rw [this]
 congr 1
 exact List.filter_congr fun v _ => by simp
theorem rowV_upto (i : Int) (hp : ∀ v ∈ l, 0 < v.2) (hs : sumP l < 18446744073709551616) : upto (rowV part below l) i = sumP (l.filter fun v => sgn below v.1 && decide (part v.1.natAbs ≤ i)) := rowV_sum_p (fun j => decide (j ≤ i)) hp hs
theorem rowV_cnt (i : Int) (hp : ∀ v ∈ l, 0 < v.2) (hs : sumP l < 18446744073709551616) : cnt (rowV part below l) i = sumP (l.filter fun v => sgn below v.1 && decide (part v.1.natAbs = i)) := rowV_sum_p (fun j => decide (j = i)) hp hs
theorem rowV_len : (rowV part below l).length ≤ l.length := by
 have h1 : ∀ (l ps : List (Int × Int)), (addAll ps l).length ≤ ps.length + l.length := by
  intro l
  induction l with
  | nil => intro ps; exact Nat.le_refl _
  | cons x l ih =>
   intro ps
   have h2 : (rowAdd ps x.1 x.2).length ≤ ps.length + 1 := by
    unfold rowAdd
    have h1 : ∀ (l : List (Int × Int)), (l.filter fun y => decide (y.1 < x.1)).length + (l.filter fun y => decide (x.1 < y.1)).length ≤ l.length := by
     intro l
     induction l with
     | nil => simp
     | cons y l ih =>
      rw [List.filter_cons, List.filter_cons, List.length_cons]
      by_cases ha : y.1 < x.1
      ·have hb : ¬ x.1 < y.1 := by omega
       simp only [ha, hb, decide_true, decide_false, if_true, Bool.false_eq_true, if_false, List.length_cons]; omega
      ·by_cases hb : x.1 < y.1
       ·simp only [ha, hb, decide_true, decide_false, if_true, Bool.false_eq_true, if_false, List.length_cons]; omega
       ·simp only [ha, hb, decide_false, Bool.false_eq_true, if_false]; omega
    have h3 := h1 ps
    rw [List.length_append, List.length_append]
    split <;> simp only [List.length_cons, List.length_nil] <;> omega
   have := ih (rowAdd ps x.1 x.2)
   show (addAll (rowAdd ps x.1 x.2) l).length ≤ _
   rw [List.length_cons]
   omega
 have h2 := h1 (selV part below l) []
 unfold rowV
 refine Nat.le_trans h2 ?_
 unfold selV
 rw [List.length_nil, List.length_map, Nat.zero_add]
 exact List.length_filter_le _ _
end
def lessV (l : List (Int × Int)) (x : Int) : Int := sumP (l.filter fun v => decide (v.1 < x))
def sameV (l : List (Int × Int)) (x : Int) : Int := sumP (l.filter fun v => decide (v.1 = x))
def exactV (l : List (Int × Int)) (t : Int) : Option Int := (l.find? fun v => decide (lessV l v.1 < t ∧ t ≤ lessV l v.1 + sameV l v.1)).map fun v => v.1
theorem filter_sum_add {p q r : Int × Int → Bool} : ∀ {l : List (Int × Int)}, (∀ v ∈ l, r v = (p v || q v) ∧ (p v = true → q v = false)) → sumP (l.filter r) = sumP (l.filter p) + sumP (l.filter q)
 | [], _ => rfl
 | v :: l, h => by
  have ih := filter_sum_add (l := l) fun y hy => h y (by simp [hy])
  obtain ⟨h1, h2⟩ := h v (by simp)
  rw [List.filter_cons, List.filter_cons, List.filter_cons, h1]
  cases hp : p v <;> cases hq : q v <;> simp [hp, hq, sumP_cons, ih] at h2 ⊢ <;> omega
theorem filter_sum_mono {p q : Int × Int → Bool} {l : List (Int × Int)} (hp : ∀ v ∈ l, 0 < v.2) (h : ∀ v ∈ l, p v = true → q v = true) : sumP (l.filter p) ≤ sumP (l.filter q) := by
 have e := filter_sum_add (l := l) (p := p) (q := fun v => q v && !p v) (r := q) fun v hv => by
  have := h v hv
  cases hp : p v <;> cases hq : q v <;> simp_all
 have := (sumP_filter_le hp fun v => q v && !p v).1
 omega
theorem upV_split (l : List (Int × Int)) (x : Int) : upV l x = lessV l x + sameV l x :=
 filter_sum_add fun v _ => by
  constructor
  ·by_cases h : v.1 < x
   ·have : v.1 ≤ x := by omega
    simp [h, this]
   ·by_cases h2 : v.1 = x
    ·simp [h2]
    ·have : ¬ v.1 ≤ x := by omega
     simp [h, h2, this]
  ·simp only [decide_eq_true_eq, decide_eq_false_iff_not]; omega
structure IsExact (l : List (Int × Int)) (t x : Int) : Prop where
 mem : ∃ v ∈ l, v.1 = x
 lo : lessV l x < t
 hi : t ≤ lessV l x + sameV l x
theorem IsExact.uniq {l : List (Int × Int)} {t x y : Int} (hp : ∀ v ∈ l, 0 < v.2) (h : IsExact l t x) (k : IsExact l t y) : x = y := by
 have key : ∀ {x y : Int}, IsExact l t x → IsExact l t y → ¬ x < y := fun {x y} h k hlt => by
  have h1 := h.hi
  have h2 := k.lo
  rw [← upV_split] at h1
  have := filter_sum_mono (p := fun v => decide (v.1 ≤ x)) (q := fun v => decide (v.1 < y)) hp fun v _ hv => by
   simp only [decide_eq_true_eq] at hv ⊢; omega
  unfold upV at h1
  unfold lessV at h2
  omega
 have h1 := key h k
 have h2 := key k h
 omega
theorem exactV_is {l : List (Int × Int)} {t x : Int} (h : exactV l t = some x) : IsExact l t x := by
 unfold exactV at h
 rw [Option.map_eq_some_iff] at h
 obtain ⟨v, hv, rfl⟩ := h
 have h1 := List.find?_some hv
 have h2 := List.mem_of_find?_eq_some hv
 simp only [decide_eq_true_eq] at h1
 exact ⟨⟨v, h2, rfl⟩, h1.1, h1.2⟩
theorem exactV_of {l : List (Int × Int)} {t x : Int} (hp : ∀ v ∈ l, 0 < v.2) (h : IsExact l t x) : exactV l t = some x := by
 obtain ⟨v, hv, rfl⟩ := h.mem
 cases he : exactV l t with
 | none =>
  unfold exactV at he
  rw [Option.map_eq_none_iff, List.find?_eq_none] at he
  have := he v hv
  simp only [decide_eq_true_eq] at this
  exact absurd ⟨h.lo, h.hi⟩ this
 | some y => rw [(exactV_is he).uniq hp h]
theorem least_of {P : Int → Prop} [DecidablePred P] : ∀ {l : List (Int × Int)}, (∃ v ∈ l, P v.1) → ∃ v ∈ l, P v.1 ∧ ∀ u ∈ l, P u.1 → v.1 ≤ u.1
 | [], h => by obtain ⟨v, hv, _⟩ := h; simp at hv
 | x :: l, h => by
  by_cases hl : ∃ v ∈ l, P v.1
  ·obtain ⟨v, hv, h1, h2⟩ := least_of hl
   by_cases hx : P x.1 ∧ x.1 ≤ v.1
   ·refine ⟨x, by simp, hx.1, fun u hu hpu => ?_⟩
    rcases List.mem_cons.1 hu with rfl | hu
    ·exact Int.le_refl _
    ·exact Int.le_trans hx.2 (h2 u hu hpu)
   ·refine ⟨v, by simp [hv], h1, fun u hu hpu => ?_⟩
    rcases List.mem_cons.1 hu with rfl | hu
    ·have : ¬ u.1 ≤ v.1 := fun h => hx ⟨hpu, h⟩
     omega
    ·exact h2 u hu hpu
  ·obtain ⟨v, hv, h1⟩ := h
   rcases List.mem_cons.1 hv with rfl | hv
   ·refine ⟨v, by simp, h1, fun u hu hpu => ?_⟩
    rcases List.mem_cons.1 hu with rfl | hu
    ·exact Int.le_refl _
    ·exact absurd ⟨u, hu, hpu⟩ hl
   ·exact absurd ⟨v, hv, h1⟩ hl
theorem most_of : ∀ {l : List (Int × Int)}, l ≠ [] → ∃ v ∈ l, ∀ u ∈ l, u.1 ≤ v.1
 | [], h => absurd rfl h
 | [x], _ => ⟨x, by simp, fun u hu => by rw [List.mem_singleton] at hu; subst hu; exact Int.le_refl _⟩
 | x :: y :: l, _ => by
  obtain ⟨v, hv, h⟩ := most_of (l := y :: l) (by simp)
  by_cases hx : x.1 ≤ v.1
  ·refine ⟨v, by simp [hv], fun u hu => ?_⟩
   rcases List.mem_cons.1 hu with rfl | hu
   ·exact hx
   ·exact h u hu
  ·refine ⟨x, by simp, fun u hu => ?_⟩
   rcases List.mem_cons.1 hu with rfl | hu
   ·exact Int.le_refl _
   ·have := h u hu; omega
theorem exactV_some {l : List (Int × Int)} {t : Int} (hp : ∀ v ∈ l, 0 < v.2) (h1 : 1 ≤ t) (h2 : t ≤ sumP l) : ∃ x, exactV l t = some x ∧ IsExact l t x := by
 have hne : l ≠ [] := fun e => by rw [e, sumP_nil] at h2; omega
 obtain ⟨z, hz, hzm⟩ := most_of hne
 have hex : ∃ v ∈ l, t ≤ upV l v.1 := ⟨z, hz, by
  unfold upV
  rw [List.filter_eq_self.2 fun u hu => by simpa using hzm u hu]
  exact h2⟩
 obtain ⟨v, hv, hP, hmin⟩ := least_of (P := fun x => t ≤ upV l x) hex
 have hI : IsExact l t v.1 := by
  refine ⟨⟨v, hv, rfl⟩, ?_, by rw [← upV_split]; exact hP⟩
  rcases Int.lt_or_le (lessV l v.1) t with h | h
  ·exact h
  ·exfalso
   have hne2 : l.filter (fun u => decide (u.1 < v.1)) ≠ [] := fun e => by unfold lessV at h; rw [e, sumP_nil] at h; omega
   obtain ⟨u, hu, hum⟩ := most_of hne2
   obtain ⟨hul, hlt⟩ := List.mem_filter.1 hu
   simp only [decide_eq_true_eq] at hlt
   have : t ≤ upV l u.1 := by
    refine Int.le_trans h ?_
    exact filter_sum_mono hp fun y hy hlt2 => by
     have := hum y (List.mem_filter.2 ⟨hy, hlt2⟩)
     simpa using this
   have := hmin u hul this
   omega
 exact ⟨v.1, exactV_of hp hI, hI⟩
theorem findP_uniq {t : Int} : ∀ {ps : List (Int × Int)} {s i : Int}, Gd ps → 0 ≤ s → s < t → s + sumP ps < 18446744073709551616 → (∃ x ∈ ps, x.1 = i) → t ≤ s + upto ps i → s + upto ps i - cnt ps i < t → findP t s ps = some i
 | [], s, i, _, _, _, _, h, _, _ => by obtain ⟨x, hx, _⟩ := h; simp at hx
 | x :: ps, s, i, hg, h0, h1, h2, ⟨y, hy, hyi⟩, h3, h4 => by
  have hx := hg.pos x (by simp)
  have hs := sumP_nonneg hg.tail.pos
  rw [sumP_cons] at h2
  rw [findP, Int.emod_eq_of_lt (by omega : 0 ≤ s + x.2) (by omega)]
  rcases List.mem_cons.1 hy with rfl | hy
  ·subst hyi
   have hu : upto (y :: ps) y.1 = y.2 := by
    unfold upto
    rw [List.filter_cons_of_pos (by simp), List.filter_eq_nil_iff.2, sumP_cons, sumP_nil, Int.add_zero]
    intro z hz
    have := hg.head z hz
    simp only [decide_eq_true_eq]; omega
   rw [hu] at h3
   rw [if_pos (by omega)]
  ·have hlt := hg.head y hy
   have hu : upto (x :: ps) i = x.2 + upto ps i := by
    unfold upto
    rw [List.filter_cons_of_pos (by simp; omega), sumP_cons]
   have hc : cnt (x :: ps) i = cnt ps i := by
    rw [cnt_cons, if_neg (by omega)]; omega
   rw [hu] at h3 h4
   rw [hc] at h4
   have hle := cnt_le_upto hg.tail.pos i
   rw [if_neg (by omega)]
   exact findP_uniq hg.tail (by omega) (by omega) (by omega) ⟨y, hy, hyi⟩ (by omega) (by omega)
def PartMono (part : Nat → Int) : Prop := ∀ a b : Nat, 0 < a → a ≤ b → b ≤ 9223372036854775808 → part a ≤ part b
def negV (l : List (Int × Int)) : Int := sumP (l.filter fun v => decide (v.1 < 0))
def posV (l : List (Int × Int)) : Int := sumP (l.filter fun v => decide (0 < v.1))
def zeroV (l : List (Int × Int)) : Int := sumP (l.filter fun v => decide (v.1 = 0))
theorem sum_three (l : List (Int × Int)) : sumP l = negV l + zeroV l + posV l := by
 have h1 := filter_sum_add (l := l) (p := fun v => decide (v.1 ≤ 0)) (q := fun v => decide (0 < v.1)) (r := fun _ => true) fun v _ => by
  by_cases h : v.1 ≤ 0
  ·have : ¬ 0 < v.1 := by omega
   simp [h, this]
  ·have : 0 < v.1 := by omega
   simp [h, this]
 have h2 := filter_sum_add (l := l) (p := fun v => decide (v.1 < 0)) (q := fun v => decide (v.1 = 0)) (r := fun v => decide (v.1 ≤ 0)) fun v _ => by
  by_cases h : v.1 < 0
  ·have h2 : v.1 ≤ 0 := by omega
   have h3 : v.1 ≠ 0 := by omega
   simp [h, h2, h3]
  ·by_cases h0 : v.1 = 0
   ·simp [h0]
   ·have : ¬ v.1 ≤ 0 := by omega
    simp [h, h0, this]
 rw [List.filter_eq_self.2 (fun _ _ => rfl)] at h1
 unfold negV zeroV posV
 omega
section
variable {part : Nat → Int} {l : List (Int × Int)} {t x : Int}
theorem negV_row (hp : ∀ v ∈ l, 0 < v.2) (hs : sumP l < 18446744073709551616) : sumP (rowV part true l) = negV l := by
 rw [rowV_sum hp hs]; unfold negV; congr 1; exact List.filter_congr fun v _ => sgn_true v.1
theorem posV_row (hp : ∀ v ∈ l, 0 < v.2) (hs : sumP l < 18446744073709551616) : sumP (rowV part false l) = posV l := by
 rw [rowV_sum hp hs]; unfold posV; congr 1; exact List.filter_congr fun v _ => sgn_false v.1
theorem rowV_mem (hp : ∀ v ∈ l, 0 < v.2) (hs : sumP l < 18446744073709551616) {below : Bool} {v : Int × Int} (hv : v ∈ l) (hb : sgn below v.1 = true) : ∃ y ∈ rowV part below l, y.1 = part v.1.natAbs := by
 refine cnt_pos_mem ?_
 rw [rowV_cnt _ hp hs]
 have h1 : v ∈ l.filter fun u => sgn below u.1 && decide (part u.1.natAbs = part v.1.natAbs) := List.mem_filter.2 ⟨hv, by simp [hb]⟩
 have h2 := hp v hv
 have h3 : ∀ {ks : List (Int × Int)}, (∀ v ∈ ks, 0 < v.2) → v ∈ ks → v.2 ≤ sumP ks := by
  intro ks
  induction ks with
  | nil => intro _ h; simp at h
  | cons a ks ih =>
   intro hk hm
   rw [sumP_cons]
   have := sumP_nonneg (ps := ks) fun y hy => hk y (by simp [hy])
   have := hk a (by simp)
   rcases List.mem_cons.1 hm with rfl | hm
   ·omega
   ·have := ih (fun y hy => hk y (by simp [hy])) hm; omega
 have := h3 (fun y hy => hp y (List.mem_filter.1 hy).1) h1
 omega
theorem exact_neg (hm : PartMono part) (hok : okP l) (hp : ∀ v ∈ l, 0 < v.2) (hs : sumP l < 18446744073709551616) (h : IsExact l t x) (hx : x < 0) (ht : 1 ≤ t) :
  t ≤ negV l ∧ findP (negV l - t + 1) 0 (rowV part true l) = some (part x.natAbs) := by
 have hle : lessV l x + sameV l x ≤ negV l := by
  rw [← upV_split]
  exact filter_sum_mono hp fun v _ hv => by simp only [decide_eq_true_eq] at hv ⊢; omega
 have h1 := h.lo
 have h2 := h.hi
 obtain ⟨v, hv, hvx⟩ := h.mem
 have hu : upto (rowV part true l) (part x.natAbs) = sumP (l.filter fun v => sgn true v.1 && decide (part v.1.natAbs ≤ part x.natAbs)) := rowV_upto _ hp hs
 have hc : cnt (rowV part true l) (part x.natAbs) = sumP (l.filter fun v => sgn true v.1 && decide (part v.1.natAbs = part x.natAbs)) := rowV_cnt _ hp hs
 have hsum := negV_row (part := part) hp hs
 have hbig : negV l - lessV l x ≤ upto (rowV part true l) (part x.natAbs) := by
  have e := filter_sum_add (l := l) (p := fun v => decide (v.1 < x)) (q := fun v => decide (v.1 < 0) && decide (x ≤ v.1)) (r := fun v => decide (v.1 < 0)) fun v _ => by
   by_cases h : v.1 < x
   ·have h2 : v.1 < 0 := by omega
    have h3 : ¬ x ≤ v.1 := by omega
    simp [h, h2, h3]
   ·have h3 : x ≤ v.1 := by omega
    simp [h, h3]
  have g := filter_sum_mono (p := fun v => decide (v.1 < 0) && decide (x ≤ v.1)) (q := fun v => sgn true v.1 && decide (part v.1.natAbs ≤ part x.natAbs)) hp fun v hv hh => by
   simp only [Bool.and_eq_true, decide_eq_true_eq] at hh
   rw [sgn_true]
   have := hm v.1.natAbs x.natAbs (by omega) (by omega) (by obtain ⟨u, hu, e⟩ := h.mem; have := (hok u hu).1; omega)
   simp [hh.1, this]
  unfold negV lessV
  omega
 have hsm : upto (rowV part true l) (part x.natAbs) - cnt (rowV part true l) (part x.natAbs) ≤ negV l - lessV l x - sameV l x := by
  have e := filter_sum_add (l := l) (p := fun v => sgn true v.1 && decide (part v.1.natAbs = part x.natAbs)) (q := fun v => sgn true v.1 && decide (part v.1.natAbs < part x.natAbs)) (r := fun v => sgn true v.1 && decide (part v.1.natAbs ≤ part x.natAbs)) fun v _ => by
   cases sgn true v.1
   ·simp
   ·by_cases h : part v.1.natAbs = part x.natAbs
    ·simp [h]
    ·by_cases h2 : part v.1.natAbs < part x.natAbs
     ·have h3 : part v.1.natAbs ≤ part x.natAbs := by omega
      simp [h, h2, h3]
     ·have h3 : ¬ part v.1.natAbs ≤ part x.natAbs := by omega
      simp [h, h2, h3]
  have e2 := filter_sum_add (l := l) (p := fun v => decide (v.1 ≤ x)) (q := fun v => decide (v.1 < 0) && decide (x < v.1)) (r := fun v => decide (v.1 < 0)) fun v _ => by
   by_cases h : v.1 ≤ x
   ·have h2 : v.1 < 0 := by omega
    have h3 : ¬ x < v.1 := by omega
    simp [h, h2, h3]
   ·have h3 : x < v.1 := by omega
    simp [h, h3]
  have g := filter_sum_mono (p := fun v => sgn true v.1 && decide (part v.1.natAbs < part x.natAbs)) (q := fun v => decide (v.1 < 0) && decide (x < v.1)) hp fun v hv hh => by
   rw [sgn_true] at hh
   simp only [Bool.and_eq_true, decide_eq_true_eq] at hh ⊢
   refine ⟨hh.1, ?_⟩
   rcases Int.lt_or_le x v.1 with h | h
   ·exact h
   ·have := hm x.natAbs v.1.natAbs (by omega) (by omega) (by have := (hok v hv).1; omega)
    omega
  have := upV_split l x
  unfold upV at this
  unfold negV
  omega
 refine ⟨by omega, findP_uniq (rowV_gd hp hs) (Int.le_refl _) (by omega) (by rw [hsum]; have := (sumP_filter_le hp fun v => decide (v.1 < 0)).2; unfold negV; omega) ?_ (by omega) (by omega)⟩
 rw [← hvx]
 exact rowV_mem hp hs hv (by rw [sgn_true, hvx]; simpa using hx)
theorem exact_zero (hp : ∀ v ∈ l, 0 < v.2) (h : IsExact l t 0) : negV l < t ∧ t - negV l ≤ zeroV l := by
 have h1 := h.lo
 have h2 := h.hi
 have e : lessV l 0 = negV l := rfl
 have e2 : sameV l 0 = zeroV l := rfl
 omega
theorem exact_pos (hm : PartMono part) (hok : okP l) (hp : ∀ v ∈ l, 0 < v.2) (hs : sumP l < 18446744073709551616) (h : IsExact l t x) (hx : 0 < x) :
  negV l < t ∧ zeroV l < t - negV l ∧ findP (t - negV l - zeroV l) 0 (rowV part false l) = some (part x.natAbs) := by
 have h1 := h.lo
 have h2 := h.hi
 obtain ⟨v, hv, hvx⟩ := h.mem
 have hle : negV l + zeroV l ≤ lessV l x := by
  have e := filter_sum_add (l := l) (p := fun v => decide (v.1 < 0)) (q := fun v => decide (v.1 = 0)) (r := fun v => decide (v.1 ≤ 0)) fun v _ => by
   by_cases h : v.1 < 0
   ·have h2 : v.1 ≤ 0 := by omega
    have h3 : v.1 ≠ 0 := by omega
    simp [h, h2, h3]
   ·by_cases h0 : v.1 = 0
    ·simp [h0]
    ·have : ¬ v.1 ≤ 0 := by omega
     simp [h, h0, this]
  have g := filter_sum_mono (p := fun v => decide (v.1 ≤ 0)) (q := fun v => decide (v.1 < x)) hp fun v _ hv => by simp only [decide_eq_true_eq] at hv ⊢; omega
  unfold negV zeroV lessV
  omega
 have hn0 : 0 ≤ zeroV l := (sumP_filter_le hp _).1
 have hu : upto (rowV part false l) (part x.natAbs) = sumP (l.filter fun v => sgn false v.1 && decide (part v.1.natAbs ≤ part x.natAbs)) := rowV_upto _ hp hs
 have hc : cnt (rowV part false l) (part x.natAbs) = sumP (l.filter fun v => sgn false v.1 && decide (part v.1.natAbs = part x.natAbs)) := rowV_cnt _ hp hs
 have hsum := posV_row (part := part) hp hs
 have hbig : lessV l x + sameV l x - negV l - zeroV l ≤ upto (rowV part false l) (part x.natAbs) := by
  rw [← upV_split]
  have e := filter_sum_add (l := l) (p := fun v => decide (v.1 ≤ 0)) (q := fun v => decide (0 < v.1) && decide (v.1 ≤ x)) (r := fun v => decide (v.1 ≤ x)) fun v _ => by
   by_cases h : v.1 ≤ 0
   ·have h2 : v.1 ≤ x := by omega
    have h3 : ¬ 0 < v.1 := by omega
    simp [h, h2, h3]
   ·have h3 : 0 < v.1 := by omega
    simp [h, h3]
  have e2 := filter_sum_add (l := l) (p := fun v => decide (v.1 < 0)) (q := fun v => decide (v.1 = 0)) (r := fun v => decide (v.1 ≤ 0)) fun v _ => by
   by_cases h : v.1 < 0
   ·have h2 : v.1 ≤ 0 := by omega
    have h3 : v.1 ≠ 0 := by omega
    simp [h, h2, h3]
   ·by_cases h0 : v.1 = 0
    ·simp [h0]
    ·have : ¬ v.1 ≤ 0 := by omega
     simp [h, h0, this]
  have g := filter_sum_mono (p := fun v => decide (0 < v.1) && decide (v.1 ≤ x)) (q := fun v => sgn false v.1 && decide (part v.1.natAbs ≤ part x.natAbs)) hp fun v hv hh => by
   simp only [Bool.and_eq_true, decide_eq_true_eq] at hh
   rw [sgn_false]
   have := hm v.1.natAbs x.natAbs (by omega) (by omega) (by obtain ⟨u, hu, e⟩ := h.mem; have := (hok u hu).1; omega)
   simp [hh.1, this]
  unfold upV negV zeroV
  omega
 have hsm : upto (rowV part false l) (part x.natAbs) - cnt (rowV part false l) (part x.natAbs) ≤ lessV l x - negV l - zeroV l := by
  have e := filter_sum_add (l := l) (p := fun v => sgn false v.1 && decide (part v.1.natAbs = part x.natAbs)) (q := fun v => sgn false v.1 && decide (part v.1.natAbs < part x.natAbs)) (r := fun v => sgn false v.1 && decide (part v.1.natAbs ≤ part x.natAbs)) fun v _ => by
   cases sgn false v.1
   ·simp
   ·by_cases h : part v.1.natAbs = part x.natAbs
    ·simp [h]
    ·by_cases h2 : part v.1.natAbs < part x.natAbs
     ·have h3 : part v.1.natAbs ≤ part x.natAbs := by omega
      simp [h, h2, h3]
     ·have h3 : ¬ part v.1.natAbs ≤ part x.natAbs := by omega
      simp [h, h2, h3]
  have e2 := filter_sum_add (l := l) (p := fun v => decide (v.1 ≤ 0)) (q := fun v => decide (0 < v.1) && decide (v.1 < x)) (r := fun v => decide (v.1 < x)) fun v _ => by
   by_cases h : v.1 ≤ 0
   ·have h2 : v.1 < x := by omega
    have h3 : ¬ 0 < v.1 := by omega
    simp [h, h2, h3]
   ·have h3 : 0 < v.1 := by omega
    simp [h, h3]
  have e3 := filter_sum_add (l := l) (p := fun v => decide (v.1 < 0)) (q := fun v => decide (v.1 = 0)) (r := fun v => decide (v.1 ≤ 0)) fun v _ => by
   by_cases h : v.1 < 0
   ·have h2 : v.1 ≤ 0 := by omega
    have h3 : v.1 ≠ 0 := by omega
    simp [h, h2, h3]
   ·by_cases h0 : v.1 = 0
    ·simp [h0]
    ·have : ¬ v.1 ≤ 0 := by omega
     simp [h, h0, this]
  have g := filter_sum_mono (p := fun v => sgn false v.1 && decide (part v.1.natAbs < part x.natAbs)) (q := fun v => decide (0 < v.1) && decide (v.1 < x)) hp fun v hv hh => by
   rw [sgn_false] at hh
   simp only [Bool.and_eq_true, decide_eq_true_eq] at hh ⊢
   refine ⟨hh.1, ?_⟩
   rcases Int.lt_or_le v.1 x with h | h
   ·exact h
   ·have := hm x.natAbs v.1.natAbs (by omega) (by omega) (by have := (hok v hv).1; omega)
    omega
  unfold lessV negV zeroV
  omega
 refine ⟨by omega, by omega, findP_uniq (rowV_gd hp hs) (Int.le_refl _) (by omega) (by rw [hsum]; have := (sumP_filter_le hp fun v => decide (0 < v.1)).2; unfold posV; omega) ?_ (by omega) (by omega)⟩
 rw [← hvx]
 exact rowV_mem hp hs hv (by rw [sgn_false, hvx]; simpa using hx)
end
end Go.Proofs.YtlbnlmhcpephbaaGreatDoor

namespace Go.Proofs.YtlbnlmhcpephbaaGreatDoor
open Go.RowKit
theorem pow_lt_iff (g : Nat) (ten : Int) (ha : g = 0 ∨ (2 : Int) ^ (g - 1) < ten) (hb : ten ≤ (2 : Int) ^ g) (j : Nat) (hj : j ≤ g) : (((2 ^ j : Nat) : Int) < ten ↔ j < g) := by
 have e : ∀ n : Nat, ((2 ^ n : Nat) : Int) = (2 : Int) ^ n := fun n => by rw [Int.natCast_pow]; rfl
 rw [e]
 constructor
 ·intro h
  rcases Nat.lt_or_ge j g with h2 | h2
  ·exact h2
  ·obtain rfl : j = g := by omega
   omega
 ·intro h
  rcases ha with ha | ha
  ·omega
  ·have : (2 : Int) ^ j ≤ 2 ^ (g - 1) := by
    have a1 : 2 ^ j ≤ 2 ^ (g - 1) := Nat.pow_le_pow_right (by omega) (by omega)
    rw [← e, ← e]
    omega
   omega
theorem ten_facts {d : Int} (h1 : 1 ≤ d) (h4 : d ≤ 4) : (∀ i : Nat, i ≤ d.toNat → 10 ^ i ≤ 10000) ∧ (∀ j : Nat, j ≤ gOf d → (((2 ^ j : Nat) : Int) < ((10 ^ d.toNat : Nat) : Int) ↔ j < gOf d)) := by
 refine ⟨fun i hi => Nat.le_trans (Nat.pow_le_pow_right (by omega) (show i ≤ 4 by omega)) (by decide), ?_⟩
 rcases (by omega : d = 1 ∨ d = 2 ∨ d = 3 ∨ d = 4) with rfl | rfl | rfl | rfl
 ·exact pow_lt_iff 4 10 (.inr (by decide)) (by decide)
 ·exact pow_lt_iff 7 100 (.inr (by decide)) (by decide)
 ·exact pow_lt_iff 10 1000 (.inr (by decide)) (by decide)
 ·exact pow_lt_iff 14 10000 (.inr (by decide)) (by decide)
set_option maxHeartbeats 1000000 in
theorem rhalf_any (d : Int) (w : World) (h1 : 1 ≤ d) (h4 : d ≤ 4) :
  Calls Tryz.prog 41 #[.int .i64 d] w fun e w' => e = .returned (.int .u64 ((2 ^ gOf d : Nat) : Int)) ∧ Below w.heap.size w w' := by
 have HT := Lib.hid (ten_facts h1 h4)
 have hg := gOf_le d
 obtain ⟨dn, rfl⟩ : ∃ dn : Nat, d = dn := ⟨d.toNat, by omega⟩
 obtain ⟨g, hgg⟩ : ∃ g, gOf (dn : Int) = g := ⟨_, rfl⟩
 rw [hgg] at HT hg ⊢
 have dn4 : dn ≤ 4 := by omega
 clear h1 h4 hgg
 go_enter Tryz.func41, Tryz.ntmps41
 go_wp2
 go_loopw [3, 4] (fun t i wr => ∃ k z : Nat, k ≤ dn ∧ i = .int .i64 k ∧ t = .int .u64 z ∧ Hid (z = 10 ^ k) ∧ Below w.heap.size w wr) (fun _ i _ => dn - (intOf i).toNat)
 case atStart => exact ⟨0, 1, by omega, rfl, rfl, rfl, Below.refl _ _⟩
 case round =>
  obtain ⟨k, z, hk, rfl, rfl, HZ, hB⟩ := hrel
  by_cases hlt : k < dn
  ·have hz : z ≤ 10000 := by rw [HZ.out]; exact HT.out.1 k (by omega)
   have v1 : IntKind.u64.wrap ((z : Int) * 10) = ((z * 10 : Nat) : Int) := by simp only [IntKind.wrap_u64]; omega
   have HN : Hid (z * 10 = 10 ^ (k + 1)) := by show _ = _; rw [Nat.pow_succ, HZ.out]
   go_wp2
   go_roundw
   case rel => exact ⟨k + 1, z * 10, by omega, by simp, by first | rfl | simp, HN, hB⟩
   case measure => simp [intOf]; omega
  ·obtain rfl : k = dn := by omega
   have hz : z ≤ 10000 := by rw [HZ.out]; exact HT.out.1 k (by omega)
   have HG : Hid (∀ j : Nat, j ≤ g → (((2 ^ j : Nat) : Int) < (z : Int) ↔ j < g)) := fun j hj => by
    have := HT.out.2 j hj
    rw [show ((k : Int)).toNat = k by omega, ← HZ.out] at this
    exact this
   clear HT HZ hlt
   go_wp2
   go_loopw [5] (fun h wi => ∃ j y : Nat, j ≤ g ∧ h = .int .u64 y ∧ Hid (y = 2 ^ j) ∧ Below w.heap.size w wi) (fun h _ => 16384 - (intOf h).toNat)
   case atStart => exact ⟨0, 1, by omega, rfl, rfl, hB⟩
   case round =>
    obtain ⟨j, y, hj, rfl, HY, hB2⟩ := hrel
    have hy : y ≤ 16384 := by rw [HY.out]; exact pow14 (by omega)
    have hy0 : 0 < y := by rw [HY.out]; exact Nat.pow_pos (by omega)
    by_cases hlt2 : j < g
    ·have hd : decide ((y : Int) < z) = true := decide_eq_true (by rw [HY.out]; exact (HG.out j hj).2 hlt2)
     have hd' : decide (y < z) = true := decide_eq_true (by have := of_decide_eq_true hd; omega)
     have v1 : IntKind.u64.wrap (2 * (y : Int)) = ((2 * y : Nat) : Int) := by simp only [IntKind.wrap_u64]; omega
     have HN : Hid (2 * y = 2 ^ (j + 1)) := by show _ = _; rw [two_pow_succ, HY.out]
     have hle : 2 * y ≤ 16384 := by rw [HN.out]; exact pow14 (by omega)
     go_wp2
     go_roundw
     case rel => exact ⟨j + 1, 2 * y, by omega, by first | rfl | simp, HN, hB2⟩
     case measure => simp [intOf]; omega
    ·obtain rfl : j = g := by omega
     have hd : decide ((y : Int) < z) = false := decide_eq_false (by rw [HY.out]; exact fun h => hlt2 ((HG.out j hj).1 h))
     have hd' : decide (y < z) = false := decide_eq_false (by have := of_decide_eq_false hd; omega)
     go_wp2
     go_ret
     exact ⟨by rw [← HY.out]; rfl, hB2⟩
theorem geq_iff {g m j : Nat} (hm : 0 < m) : 2 * 2 ^ g ≤ m / 2 ^ j ↔ j < kN g m := by
 rw [← two_pow_succ, Nat.le_div_iff_mul_le (hpos j), ← Nat.pow_add, ← Nat.le_log2 (by omega)]
 unfold kN
 omega
set_option maxHeartbeats 1000000 in
theorem rindex_any (d : Int) (m : Nat) (w : World) (h1 : 1 ≤ d) (h4 : d ≤ 4) (hm : 0 < m) (hm' : m ≤ 9223372036854775808) :
  Calls Tryz.prog 33 #[.int .i64 d, .int .u64 m] w fun e w' => e = .returned (.int .i64 (idxN (gOf d) m : Nat)) ∧ Below w.heap.size w w' := by
 have HH := Lib.hid (rhalf_any d w h1 h4)
 have hg := gOf_le d
 have hk59 : kN (gOf d) m ≤ 59 := by have := log2_le63 hm hm'; have := gOf_ge d; unfold kN; omega
 have HQ := Lib.hid (fun j => geq_iff (g := gOf d) (j := j) hm)
 have HI : Hid (idxN (gOf d) m = kN (gOf d) m * 2 ^ gOf d + m / 2 ^ kN (gOf d) m) := rfl
 have HQL := Lib.hid (qN_lt (g := gOf d) hm)
 obtain ⟨g, hgg⟩ : ∃ g, gOf d = g := ⟨_, rfl⟩
 rw [hgg] at HH HQ HI HQL hg hk59 ⊢
 obtain ⟨H, hHH⟩ : ∃ H, 2 ^ g = H := ⟨_, rfl⟩
 have hH : H ≤ 16384 := by rw [← hHH]; exact pow14 hg
 have hH0 : 0 < H := by rw [← hHH]; exact hpos g
 rw [two_pow_succ] at HQL
 rw [hHH] at HH HI HQL
 simp only [hHH] at HQ
 obtain ⟨kk, hkk⟩ : ∃ k, kN g m = k := ⟨_, rfl⟩
 have HKK := Lib.hid hkk
 rw [hkk] at HI hk59
 simp only [hkk] at HQ
 have HQ2 : Hid (m / 2 ^ kk < 2 * H) := by have := HQL.out; unfold qN at this; rw [hkk] at this; exact this
 rw [HI.out]
 have HM := Lib.hid hm'
 clear hgg hHH hkk h1 h4 HQL HI hm hm'
 go_enter Tryz.func33, Tryz.ntmps33
 go_wp2_with fail
 refine HH.out.mono ?_
 rintro e w1 ⟨rfl, hb1⟩
 clear HH
 go_wp2
 go_loopw [1, 6] (fun mv kv wr => ∃ j z : Nat, j ≤ kk ∧ mv = .int .u64 z ∧ kv = .int .u64 j ∧ Hid (z = m / 2 ^ j) ∧ Below w.heap.size w wr) (fun _ kv _ => kk - (intOf kv).toNat)
 case atStart => exact ⟨0, m, by omega, rfl, rfl, by show m = m / 2 ^ 0; simp, hb1⟩
 case round =>
  obtain ⟨j, z, hj, rfl, rfl, HZ, hB⟩ := hrel
  have hz : z ≤ 9223372036854775808 := by rw [HZ.out]; exact Nat.le_trans (Nat.div_le_self _ _) HM.out
  have hv : IntKind.u64.wrap (2 * (H : Int)) = ((2 * H : Nat) : Int) := by simp only [IntKind.wrap_u64]; omega
  by_cases hlt : j < kk
  ·have hge : 2 * H ≤ z := by rw [HZ.out]; exact (HQ.out j).2 hlt
   have hd : decide (((2 * H : Nat) : Int) ≤ z) = true := decide_eq_true (by omega)
   have hd' : decide (2 * H ≤ z) = true := decide_eq_true hge
   have hd'' : decide (2 * (H : Int) ≤ z) = true := decide_eq_true (by omega)
   have v1 : IntKind.u64.wrap ((z : Int).tdiv 2) = ((z / 2 : Nat) : Int) := by rw [Int.tdiv_eq_ediv_of_nonneg (by omega)]; simp only [IntKind.wrap_u64]; omega
   have v2 : IntKind.u64.wrap ((j : Int) + 1) = ((j + 1 : Nat) : Int) := by simp only [IntKind.wrap_u64]; omega
   have HN : Hid (z / 2 = m / 2 ^ (j + 1)) := by show _ = _; rw [HZ.out, Nat.div_div_eq_div_mul, Nat.pow_succ]
   clear HZ HQ hge
   go_wp2
   go_roundw
   case rel => exact ⟨j + 1, z / 2, by omega, by first | rfl | simp, by first | rfl | simp, HN, hB⟩
   case measure => simp [intOf]; omega
  ·obtain rfl : j = kk := by omega
   have hge : ¬ 2 * H ≤ z := by have := HQ2.out; rw [HZ.out]; omega
   have hd : decide (((2 * H : Nat) : Int) ≤ z) = false := decide_eq_false (by omega)
   have hd' : decide (2 * H ≤ z) = false := decide_eq_false hge
   have hd'' : decide (2 * (H : Int) ≤ z) = false := decide_eq_false (by omega)
   have hjH : j * H ≤ 59 * 16384 := Nat.mul_le_mul hk59 hH
   have v1 : IntKind.u64.wrap ((j : Int) * H) = ((j * H : Nat) : Int) := by
    have e : (j : Int) * H = ((j * H : Nat) : Int) := by rw [Int.natCast_mul]
    rw [e]; simp only [IntKind.wrap_u64]; omega
   obtain ⟨jH, hjHe⟩ : ∃ y, j * H = y := ⟨_, rfl⟩
   have HJ := Lib.hid hjHe
   rw [hjHe] at v1 hjH
   have v2 : IntKind.u64.wrap ((jH : Int) + z) = ((jH + z : Nat) : Int) := by simp only [IntKind.wrap_u64]; omega
   have v3 : IntKind.i64.wrap ((jH + z : Nat) : Int) = ((jH + z : Nat) : Int) := by simp only [IntKind.wrap_i64]; omega
   have HS3 : Hid (wrap64 ((jH : Int) + z) = (jH : Int) + z) := by show _ = _; unfold wrap64; omega
   clear HQ HQ2 hge hjHe
   go_wp2
   go_ret
   exact ⟨by rw [← HZ.out, HJ.out]; first | rfl | (simp; exact HS3.out), hB⟩
theorem dhi (g m : Nat) (hg : g ≤ 63) (hm : 0 < m) (hm' : m ≤ 9223372036854775808) (hg14 : g ≤ 14) : hiN g m = if loN g m = 9223372036854775808 then 9223372036854775808 else loN g m + 2 ^ kN g m - 1 := by
 have hp := hpos (kN g m)
 rcases Nat.lt_or_ge m 9223372036854775808 with h | h
 ·have := cell_top (g := g) hm h
  have h2 := lo_le g m
  rw [if_neg (by omega), hi_below hm h]
  omega
 ·obtain rfl : m = 9223372036854775808 := by omega
  rw [lo_top hg, hi_top hg, if_pos rfl]
set_option maxHeartbeats 1000000 in
theorem rrange_any (d : Int) (m : Nat) (w : World) (h1 : 1 ≤ d) (h4 : d ≤ 4) (hm : 0 < m) (hm' : m ≤ 9223372036854775808) :
  Calls Tryz.prog 408 #[.int .i64 d, .int .u64 m] w fun e w' => e = .returned (.tuple #[.int .u64 (loN (gOf d) m : Nat), .int .u64 (hiN (gOf d) m : Nat)]) ∧ Below w.heap.size w w' := by
 have HH := Lib.hid (rhalf_any d w h1 h4)
 have hg := gOf_le d
 have hk59 : kN (gOf d) m ≤ 59 := by have := log2_le63 hm hm'; have := gOf_ge d; unfold kN; omega
 have HQ := Lib.hid (fun j => geq_iff (g := gOf d) (j := j) hm)
 have HLO : Hid (loN (gOf d) m = m / 2 ^ kN (gOf d) m * 2 ^ kN (gOf d) m) := rfl
 have HHI := Lib.hid (dhi (gOf d) m (by omega) hm hm' hg)
 have hle := lo_le (gOf d) m
 obtain ⟨g, hgg⟩ : ∃ g, gOf d = g := ⟨_, rfl⟩
 rw [hgg] at HH HQ HLO HHI hg hk59 hle ⊢
 obtain ⟨H, hHH⟩ : ∃ H, 2 ^ g = H := ⟨_, rfl⟩
 have hH : H ≤ 16384 := by rw [← hHH]; exact pow14 hg
 rw [hHH] at HH
 simp only [hHH] at HQ
 obtain ⟨kk, hkk⟩ : ∃ k, kN g m = k := ⟨_, rfl⟩
 rw [hkk] at HLO HHI hk59
 simp only [hkk] at HQ
 obtain ⟨lo, hlo⟩ : ∃ l, loN g m = l := ⟨_, rfl⟩
 obtain ⟨hi, hhi⟩ : ∃ l, hiN g m = l := ⟨_, rfl⟩
 rw [hlo] at HLO HHI hle ⊢
 rw [hhi] at HHI ⊢
 have HM := Lib.hid hm'
 clear hgg hHH hkk h1 h4 hlo hhi hm
 go_enter Tryz.func408, Tryz.ntmps408
 go_wp2_with fail
 refine HH.out.mono ?_
 rintro e w1 ⟨rfl, hb1⟩
 clear HH
 go_wp2
 go_loopw [7] (fun sv wr => ∃ j s : Nat, j ≤ kk ∧ sv = .int .u64 s ∧ Hid (s = 2 ^ j) ∧ Below w.heap.size w wr) (fun sv _ => 2 ^ 62 - (intOf sv).toNat)
 case atStart => exact ⟨0, 1, by omega, rfl, rfl, hb1⟩
 case round =>
  obtain ⟨j, s, hj, rfl, HS, hB⟩ := hrel
  have hs : s ≤ 2 ^ 59 := by rw [HS.out]; exact Nat.pow_le_pow_right (by omega) (by omega)
  have hs0 : 0 < s := by rw [HS.out]; exact hpos j
  have hne : ((s : Int) == 0) = false := beq_eq_false_iff_ne.2 (by omega)
  have hv : IntKind.u64.wrap (2 * (H : Int)) = ((2 * H : Nat) : Int) := by simp only [IntKind.wrap_u64]; omega
  have hqz : m / s ≤ 9223372036854775808 := Nat.le_trans (Nat.div_le_self _ _) HM.out
  have hq : IntKind.u64.wrap ((m : Int) / s) = ((m / s : Nat) : Int) := by
   rw [← Int.natCast_ediv]; exact wrap_low _ hqz
  by_cases hlt : j < kk
  ·have hge : 2 * H ≤ m / s := by rw [HS.out]; exact (HQ.out j).2 hlt
   obtain ⟨z, hz⟩ : ∃ z, m / s = z := ⟨_, rfl⟩
   rw [hz] at hge hq hqz
   have hd : decide (((2 * H : Nat) : Int) ≤ z) = true := decide_eq_true (by omega)
   have hd' : decide (2 * H ≤ z) = true := decide_eq_true hge
   have hd'' : decide (2 * (H : Int) ≤ z) = true := decide_eq_true (by omega)
   have v1 : IntKind.u64.wrap (2 * (s : Int)) = ((2 * s : Nat) : Int) := by simp only [IntKind.wrap_u64]; omega
   have HN : Hid (2 * s = 2 ^ (j + 1)) := by show _ = _; rw [two_pow_succ, HS.out]
   have hs2 : 2 * s ≤ 2 ^ 59 := by rw [HN.out]; exact Nat.pow_le_pow_right (by omega) (by omega)
   clear HQ hge hz hqz
   go_wp2
   go_roundw
   case rel => exact ⟨j + 1, 2 * s, by omega, by first | rfl | simp, HN, hB⟩
   case measure => simp [intOf]; omega
  ·obtain rfl : j = kk := by omega
   have hge : ¬ 2 * H ≤ m / s := by rw [HS.out]; exact fun h => hlt ((HQ.out j).1 h)
   have hlos : m / s * s = lo := by rw [HLO.out, HS.out]
   obtain ⟨z, hz⟩ : ∃ z, m / s = z := ⟨_, rfl⟩
   rw [hz] at hge hq hqz hlos
   have hd : decide (((2 * H : Nat) : Int) ≤ z) = false := decide_eq_false (by omega)
   have hd' : decide (2 * H ≤ z) = false := decide_eq_false hge
   have hd'' : decide (2 * (H : Int) ≤ z) = false := decide_eq_false (by omega)
   have hlo9 : lo ≤ 9223372036854775808 := Nat.le_trans hle HM.out
   have v1 : IntKind.u64.wrap ((z : Int) * s) = (lo : Int) := by
    have e : (z : Int) * s = ((z * s : Nat) : Int) := by rw [Int.natCast_mul]
    rw [e, hlos]; simp only [IntKind.wrap_u64]; omega
   rw [← HS.out] at HHI
   clear HQ hge hz hlos HLO HM hle
   by_cases ht : lo = 9223372036854775808
   ·have HV : Hid (hi = 9223372036854775808) := by show _ = _; rw [HHI.out, if_pos ht]
    have ht' : ((lo : Int) == 9223372036854775808) = true := by rw [ht]; rfl
    subst ht
    clear HHI
    go_wp2
    go_ret2
    exact ⟨by rw [HV.out]; rfl, hB⟩
   ·have HV : Hid (hi = lo + s - 1) := by show _ = _; rw [HHI.out, if_neg ht]
    have ht' : ((lo : Int) == 9223372036854775808) = false := beq_eq_false_iff_ne.2 (by omega)
    have v2 : IntKind.u64.wrap ((lo : Int) + s) = ((lo + s : Nat) : Int) := by simp only [IntKind.wrap_u64]; omega
    have v3 : IntKind.u64.wrap (((lo + s : Nat) : Int) - 1) = ((lo + s - 1 : Nat) : Int) := by simp only [IntKind.wrap_u64]; omega
    clear HHI ht
    go_wp2
    go_ret2
    exact ⟨by rw [HV.out]; first | rfl | (simp; omega), hB⟩
end Go.Proofs.YtlbnlmhcpephbaaGreatDoor

namespace Go.Proofs.YtlbnlmhcpephbaaGreatDoor
open Go.RowKit
theorem At.six {w : World} {b : Nat} {T : TypeId} {v0 v1 v2 v3 v4 v5 : Value} (h : At w b #[v0, v1, v2, v3, v4, v5] T) : w.cell? ⟨b, 0, none⟩ = some v0 ∧ w.cell? ⟨b, 1, none⟩ = some v1 ∧ w.cell? ⟨b, 2, none⟩ = some v2 ∧ w.cell? ⟨b, 3, none⟩ = some v3 ∧ w.cell? ⟨b, 4, none⟩ = some v4 ∧ w.cell? ⟨b, 5, none⟩ = some v5 ∧
  w.frozen? ⟨b, 0, none⟩ = false ∧ w.frozen? ⟨b, 1, none⟩ = false ∧ w.frozen? ⟨b, 2, none⟩ = false ∧ w.frozen? ⟨b, 3, none⟩ = false ∧ w.frozen? ⟨b, 4, none⟩ = false ∧ w.frozen? ⟨b, 5, none⟩ = false :=
 ⟨h.cell rfl, h.cell rfl, h.cell rfl, h.cell rfl, h.cell rfl, h.cell rfl, h.frozen 0, h.frozen 1, h.frozen 2, h.frozen 3, h.frozen 4, h.frozen 5⟩
def BinsAt (w : World) (m : Nat) (lows reps : Value) (digits side most : Int) (A : Option Addr) (len cap : Nat) : Prop := At w m #[lows, reps, .int .i64 digits, .int .i64 side, .int .i64 most, .slice A len cap] 83
def PartOk (w : World) (m : Nat) (part : Nat → Int) : Prop := ∀ (W : World), Below w.heap.size w W → ∀ a : Nat, 0 < a → a ≤ 9223372036854775808 →
 Calls Tryz.prog 17 #[.pointer (some ⟨m, 0, none⟩), .int .u64 a] W fun e W' => e = .returned (.int .i64 (part a)) ∧ Below W.heap.size W W'
def StandOk (w : World) (m : Nat) (stand : Int → Int) : Prop := ∀ (W : World), Below w.heap.size w W → ∀ x : Int, -9223372036854775808 ≤ x → x ≤ 9223372036854775807 →
 Calls Tryz.prog 402 #[.pointer (some ⟨m, 0, none⟩), .int .i64 x] W fun e W' => e = .returned (.int .i64 (stand x)) ∧ Below W.heap.size W W'
def partD (d : Int) (a : Nat) : Int := (idxN (gOf d) a : Nat)
def repM (g m : Nat) : Nat := loN g m + (hiN g m - loN g m) / 2
def standV (rep : Nat → Nat) (x : Int) : Int := if x = 0 then 0 else if 0 < x then min (rep x.natAbs : Int) 9223372036854775807 else -(rep x.natAbs : Int)
theorem partD_ok (w : World) (m : Nat) (lows reps : Value) (d side most : Int) (A : Option Addr) (len cap : Nat) (h : BinsAt w m lows reps d side most A len cap) (h1 : 1 ≤ d) (h4 : d ≤ 4) : PartOk w m (partD d) := by
 intro W hW a ha ha'
 have f1 := At.six (At.below h hW)
 have l1 := (At.below h hW).lt
 have HX := Lib.hid fun W' => rindex_any d a W' h1 h4 ha ha'
 have hd0 : (0 : Int) < d := by omega
 have HP : Hid (partD d a = (idxN (gOf d) a : Nat)) := rfl
 rw [HP.out]
 obtain ⟨ix, hix⟩ : ∃ i, idxN (gOf d) a = i := ⟨_, rfl⟩
 rw [hix] at HX ⊢
 clear h hW h1 h4 ha ha' hix
 go_enter Tryz.func17, Tryz.ntmps17
 go_wp2_with fail
 refine (HX.out W).mono ?_
 rintro e w1 ⟨rfl, hb⟩
 go_wp2
 go_ret
 exact ⟨rfl, hb⟩
theorem standD_ok (w : World) (m : Nat) (lows reps : Value) (d side most : Int) (A : Option Addr) (len cap : Nat) (h : BinsAt w m lows reps d side most A len cap) (h1 : 1 ≤ d) (h4 : d ≤ 4) : StandOk w m (standV (repM (gOf d))) := by
 intro W hW x hx1 hx2
 have f1 := At.six (At.below h hW)
 have l1 := (At.below h hW).lt
 have hd0 : (0 : Int) < d := by omega
 by_cases hx0 : x = 0
 ·subst hx0
  have HV : Hid (standV (repM (gOf d)) 0 = 0) := rfl
  rw [HV.out]
  go_enter Tryz.func402, Tryz.ntmps402
  go_wp2
  go_ret
  exact ⟨rfl, Below.refl _ _⟩
 ·have hx0' : (x == 0) = false := beq_eq_false_iff_ne.2 hx0
  have hn0 : 0 < x.natAbs := by omega
  have hn1 : x.natAbs ≤ 9223372036854775808 := by omega
  have HS := Lib.hid (rsize_any x W hx1 hx2)
  have HX := Lib.hid (rrange_any d x.natAbs W h1 h4 hn0 hn1)
  have hlh := lo_le_hi (g := gOf d) hn0 hn1
  have hhi := hi_le (gOf d) x.natAbs
  have HV : Hid (standV (repM (gOf d)) x = if 0 < x then min ((loN (gOf d) x.natAbs + (hiN (gOf d) x.natAbs - loN (gOf d) x.natAbs) / 2 : Nat) : Int) 9223372036854775807 else -((loN (gOf d) x.natAbs + (hiN (gOf d) x.natAbs - loN (gOf d) x.natAbs) / 2 : Nat) : Int)) := by
   show _ = _
   unfold standV
   rw [if_neg hx0]
   rfl
  rw [HV.out]
  obtain ⟨lo, hlo⟩ : ∃ l, loN (gOf d) x.natAbs = l := ⟨_, rfl⟩
  obtain ⟨hi, hhie⟩ : ∃ l, hiN (gOf d) x.natAbs = l := ⟨_, rfl⟩
  obtain ⟨mg, hmg⟩ : ∃ l, x.natAbs = l := ⟨_, rfl⟩
  rw [hlo, hhie] at HX hlh ⊢
  rw [hhie] at hhi
  rw [hmg] at HX HS
  have HM := Lib.hid (wrap_mid lo hi hlh hhi)
  have hr : lo + (hi - lo) / 2 ≤ 9223372036854775808 := by omega
  obtain ⟨r, hre⟩ : ∃ r, lo + (hi - lo) / 2 = r := ⟨_, rfl⟩
  rw [hre] at HM hr ⊢
  have v1 : IntKind.u64.wrap ((hi : Int) - lo) = (hi : Int) - lo := by simp only [IntKind.wrap_u64]; omega
  clear h hW h1 h4 hn0 hn1 hlo hhie hmg hre hlh hhi HV
  by_cases hp : 0 < x
  ·have hd1 : decide (0 < x) = true := decide_eq_true hp
   rw [if_pos hp]
   have HW : Hid (wrap64 (min (r : Int) 9223372036854775807) = min (r : Int) 9223372036854775807) := by show _ = _; unfold wrap64; omega
   clear hp hx0 hx1 hx2
   go_enter Tryz.func402, Tryz.ntmps402
   go_wp2_with fail
   refine HS.out.mono ?_
   rintro e w1 ⟨rfl, rfl⟩
   go_wp2_with fail
   refine HX.out.mono ?_
   rintro e w2 ⟨rfl, hb⟩
   clear HX HS f1 l1
   go_wp2
   go_ret
   exact ⟨by rw [HM.out, HW.out]; rfl, hb⟩
  ·have hd1 : decide (0 < x) = false := decide_eq_false hp
   rw [if_neg hp]
   have HW : Hid (wrap64 (-wrap64 (r : Int)) = -(r : Int)) := by show _ = _; unfold wrap64; omega
   clear hp hx0 hx1 hx2
   by_cases hr2 : r = 9223372036854775808
   ·have hrd : (IntKind.u64.wrap ((lo : Int) + IntKind.u64.wrap (((hi : Int) - lo).tdiv 2)) == 9223372036854775808) = true := by rw [HM.out, hr2]; rfl
    have HR2 : Hid (-(r : Int) = -9223372036854775808) := by show _ = _; omega
    rw [HR2.out]
    clear hr2
    go_enter Tryz.func402, Tryz.ntmps402
    go_wp2_with fail
    refine HS.out.mono ?_
    rintro e w1 ⟨rfl, rfl⟩
    go_wp2_with fail
    refine HX.out.mono ?_
    rintro e w2 ⟨rfl, hb⟩
    clear HX HS f1 l1
    go_wp2
    go_ret
    exact ⟨rfl, hb⟩
   ·have hrd : (IntKind.u64.wrap ((lo : Int) + IntKind.u64.wrap (((hi : Int) - lo).tdiv 2)) == 9223372036854775808) = false := by rw [HM.out]; exact beq_eq_false_iff_ne.2 (by omega)
    clear hr2
    go_enter Tryz.func402, Tryz.ntmps402
    go_wp2_with fail
    refine HS.out.mono ?_
    rintro e w1 ⟨rfl, rfl⟩
    go_wp2_with fail
    refine HX.out.mono ?_
    rintro e w2 ⟨rfl, hb⟩
    clear HX HS f1 l1
    go_wp2
    go_ret
    exact ⟨by rw [HM.out, HW.out]; rfl, hb⟩
theorem rowV_ok {part : Nat → Int} {below : Bool} {l : List (Int × Int)} (hp : ∀ a, 0 < a → a ≤ 9223372036854775808 → -9223372036854775808 ≤ part a ∧ part a ≤ 9223372036854775807) (hok : okP l) : okP (rowV part below l) := by
 refine addAll_ok (ps := []) (fun x hx => by simp at hx) fun x hx => ?_
 unfold selV at hx
 obtain ⟨v, hv, rfl⟩ := List.mem_map.1 hx
 obtain ⟨m1, m2⟩ := List.mem_filter.1 hv
 obtain ⟨m3, m4⟩ := hok v m1
 have m5 : v.1 ≠ 0 := fun e => by unfold sgn at m2; rw [e] at m2; simp at m2
 exact ⟨hp _ (by omega) (by omega), m4⟩
def RowR (ps : List (Int × Int)) (w : World) (e : Ending) (w' : World) : Prop := ∃ A' c', e = .returned (.slice A' ps.length c') ∧ RdP w' A' ps ∧ Below w.heap.size w w'
end Go.Proofs.YtlbnlmhcpephbaaGreatDoor

namespace Go.Proofs.YtlbnlmhcpephbaaGreatDoor
open Go.RowKit
theorem partD_mono (d : Int) : PartMono (partD d) := fun a b ha hab hb => by
 have := idx_mono (g := gOf d) ha hab
 unfold partD
 omega
theorem repI_idx {g m : Nat} (h : 0 < m) : repI g (idxN g m) = repM g m := by unfold repI repM; rw [loI_idx h, hiI_idx h]
theorem repM_le {g m : Nat} (h : 0 < m) (h2 : m ≤ 9223372036854775808) : loN g m ≤ repM g m ∧ repM g m ≤ hiN g m := by
 have := lo_le_hi (g := g) h h2
 unfold repM; omega
theorem wrap_in {z : Int} (h : 0 ≤ z ∧ z < 18446744073709551616) : IntKind.u64.wrap z = z := by simp only [IntKind.wrap_u64]; omega
theorem partD_rng {d : Int} {m : Nat} (h1 : 0 < m) (h2 : m ≤ 9223372036854775808) : 0 < partD d m ∧ partD d m ≤ 1048576 := by
 have hg := gOf_le d
 have a := idx_pos (g := gOf d) h1
 have b := idx_le_top (g := gOf d) (by omega) h1 h2
 have c := lastI hg
 unfold partD
 omega
def topD (d : Int) : Int := ((64 - gOf d) * 2 ^ gOf d : Nat)
theorem rep_pos {d : Int} {i : Nat} (h1 : 0 < i) (h2 : (i : Int) ≤ topD d) : 0 < repI (gOf d) i := by
 have hg := gOf_le d
 unfold topD at h2
 have m1 := (idx_of (g := gOf d) (i := i) (by omega) h1 (by omega)).1
 exact Nat.lt_of_lt_of_le m1 (Nat.le_add_right _ _)
theorem topD_le (d : Int) : 0 ≤ topD d ∧ topD d ≤ 1048576 := by
 have := lastI (gOf_le d)
 unfold topD
 omega
theorem partD_top {d : Int} {m : Nat} (h1 : 0 < m) (h2 : m ≤ 9223372036854775808) : partD d m ≤ topD d := by
 have b := idx_le_top (g := gOf d) (by have := gOf_le d; omega) h1 h2
 unfold partD topD
 omega
def repD (d : Int) (i : Int) : Int := if 0 < i ∧ i ≤ topD d then (repI (gOf d) i.toNat : Nat) else 0
theorem repD_part {d : Int} {m : Nat} (h1 : 0 < m) (h2 : m ≤ 9223372036854775808) : repD d (partD d m) = (repM (gOf d) m : Nat) := by
 unfold repD
 rw [if_pos ⟨(partD_rng h1 h2).1, partD_top h1 h2⟩]
 unfold partD
 rw [Int.toNat_natCast, repI_idx h1]
theorem repI_le {d : Int} {i : Nat} (h1 : 0 < i) (h2 : (i : Int) ≤ topD d) : repI (gOf d) i ≤ 9223372036854775808 := by
 have hg := gOf_le d
 unfold topD at h2
 have := hiI_le (g := gOf d) (i := i) (by omega) h1 (by omega)
 unfold repI
 omega
end Go.Proofs.YtlbnlmhcpephbaaGreatDoor
