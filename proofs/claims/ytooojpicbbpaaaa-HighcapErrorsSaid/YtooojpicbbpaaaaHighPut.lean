/- Contracts of package highcap: shed, put, Add. -/
import Derived.Test.YtooojpicbbpaaaaProg
import Derived.Test.YtooojpicbbpaaaaHigh
import Derived.Test.YtooojpicbbpaaaaCapFar
import Derived.LoopNIn
namespace Go.Proofs.Ytooojpicbbpaaaa
open Go.RowKit

/-- How long the row of a strip's block is. -/
def lenC (w : World) (c : Nat) : Nat := match w.cell? ⟨c, 1, none⟩ with
  | some (.slice _ n _) => n
  | _ => 0
theorem Strip.lenC {w : World} {c : Nat} {S : List Nat} {most : Int} {ps : List (Int × Int)} (h : Strip w c S most ps) : lenC w c = ps.length := by
  obtain ⟨A, k, _, h⟩ := h
  have := h.at'.three
  unfold Go.Proofs.Ytooojpicbbpaaaa.lenC
  rw [this.2.1]

theorem endsV_ne {ps : List (Int × Int)} (h : ps ≠ []) : endsV ps = .tuple #[.int .i64 (ps.getD 0 (0, 0)).1, .int .i64 (ps.getD (ps.length - 1) (0, 0)).1, .bool true] := by
  unfold endsV
  rw [if_neg (ne_len.2 h)]

/-- A round of shed: what is left, and lost. -/
structure Shd (w wr : World) (b c : Nat) (S' : List Nat) (most e tot : Int) (ps qs : List (Int × Int)) : Prop where
  nb : b ∉ S'
  at' : At wr b #[.int .i64 most, .pointer (some ⟨c, 0, none⟩), .int .u64 (tot - sumP qs)] 63
  st : Strip wr c S' most qs
  nr : near sd most e qs = near sd most e ps
  sm : sumP qs ≤ tot
  fr : Frame (b :: S') w wr

set_option maxRecDepth 100000 in
theorem lshed_any (b c : Nat) (S' : List Nat) (most tot e : Int) (ps : List (Int × Int)) (w : World) (hbn : b ∉ S') (s1 : At w b #[.int .i64 most, .pointer (some ⟨c, 0, none⟩), .int .u64 (tot - sumP ps)] 63) (hS : Strip w c S' most ps)
    (hm : 1 ≤ most ∧ most ≤ 4096) (he : -9223372036854775808 ≤ e ∧ e ≤ 9223372036854775807) (hs : sumP ps ≤ tot) (ht : tot ≤ 9223372036854775807) :
    Calls Try.prog 44 #[.pointer (some ⟨b, 0, none⟩), .int .i64 e] w fun r w' => r = .returned (.tuple #[]) ∧ At w' b #[.int .i64 most, .pointer (some ⟨c, 0, none⟩), .int .u64 (tot - sumP (near sd most e ps))] 63 ∧ Strip w' c S' most (near sd most e ps) ∧ Frame (b :: S') w w' := by
  have H0 : Hid (Shd w w b c S' most e tot ps ps) := ⟨hbn, s1, hS, rfl, hs, Frame.refl _ _⟩
  have HM := Lib.hid hm
  have HE := Lib.hid he
  have HT := Lib.hid ht
  clear hbn s1 hS hs hm he ht
  go_enter Try.func44, Try.ntmps44
  go_wp2
  go_loopw [4, 5, 6, 7, 8] (fun _ _ _ _ _ wr => ∃ qs, Hid (Shd w wr b c S' most e tot ps qs)) (fun _ _ _ _ _ wr => lenC wr c)
  case atStart => exact ⟨ps, H0⟩
  case round =>
    obtain ⟨qs, H⟩ := hrel
    clear H0
    have f1 := H.out.at'.three
    have s1 := H.out.at'
    have l1 := s1.lt
    by_cases h0 : qs = []
    · subst h0
      go_wp2_with fail
      refine (sends_any c S' most [] wr H.out.st).mono ?_
      rintro r w1 ⟨rfl, hb⟩
      rw [show endsV [] = .tuple #[.int .i64 0, .int .i64 0, .bool false] from rfl]
      have HR : Hid (At w1 b #[.int .i64 most, .pointer (some ⟨c, 0, none⟩), .int .u64 (tot - sumP (near sd most e ps))] 63 ∧ Strip w1 c S' most (near sd most e ps) ∧ Frame (b :: S') w w1) := by
        have := H.out.nr
        rw [near_nil] at this
        rw [← this]
        exact ⟨s1.below hb, H.out.st.below hb, H.out.fr.trans (Frame.of_below hb)⟩
      clear hb
      go_wp2
      exact bodyPost_ret (v := .tuple #[]) (by simp [results, Try.f44, go_sem]) rfl ⟨rfl, HR.out⟩
    · go_wp2_with fail
      refine (sends_any c S' most qs wr H.out.st).mono ?_
      rintro r w1 ⟨rfl, hb⟩
      rw [endsV_ne h0]
      have H1 : Hid (Shd w w1 b c S' most e tot ps qs) := ⟨H.out.nb, s1.below hb, H.out.st.below hb, H.out.nr, H.out.sm, H.out.fr.trans (Frame.of_below hb)⟩
      have HMS : Hid (lenC wr c = qs.length) := H.out.st.lenC
      have hfar : (qs.getD (farI sd qs) (0, 0)).1 = (qs.getD (qs.length - 1) (0, 0)).1 := rfl
      obtain ⟨x, hx⟩ : ∃ x, (qs.getD (farI sd qs) (0, 0)).1 = x := ⟨_, rfl⟩
      obtain ⟨y, hy⟩ : ∃ y, (qs.getD 0 (0, 0)).1 = y := ⟨_, rfl⟩
      have HX := Lib.hid hx
      have HB := Lib.hid (show -9223372036854775808 ≤ x ∧ x ≤ 9223372036854775807 from by rw [← hx]; exact (H.out.st.ok _ (getD_mem' (farI_lt h0))).1)
      rw [hx] at hfar
      rw [← hfar, hy]
      clear hb hx hy hfar
      go_wp2_with fail
      refine (lout_any b (b :: S') most (tot - sumP qs) x e qs w1 ⟨c, S', rfl, H1.out.nb, H1.out.at', H1.out.st⟩ HM.out HB.out HE.out).mono ?_
      rintro r w2 ⟨rfl, rfl⟩
      by_cases hg : most ≤ gap sd e x
      · rw [decide_eq_true hg]
        have HG := Lib.hid hg
        clear hg
        have f2 := H1.out.at'.three
        have l2 := H1.out.at'.lt
        clear f1 s1 l1
        go_wp2_with fail
        refine (slast_any c S' most qs w1 H1.out.st).mono ?_
        rintro r w3 ⟨rfl, hS3, hF3⟩
        rw [if_neg (ne_len.2 h0)] at hS3
        have s3 := hF3.at H1.out.at' H1.out.nb
        have l3 := s3.lt
        obtain ⟨z, hz⟩ : ∃ z, (qs.getD (farI sd qs) (0, 0)).2 = z := ⟨_, rfl⟩
        have HV : Hid (outV qs (qs.length - 1) = .tuple #[.agg #[.int .i64 x, .int .u64 z], .bool true]) := by
          show _ = _
          unfold outV
          rw [if_neg (ne_len.2 h0), ← hz, ← HX.out]
          rfl
        rw [HV.out]
        obtain ⟨lo, hlo⟩ : ∃ lo, tot - sumP qs = lo := ⟨_, rfl⟩
        have hsm := sumP_outF (farI_lt (s := sd) h0)
        rw [hz] at hsm
        have hzz := H1.out.st.gd.pos _ (getD_mem' (farI_lt (s := sd) h0))
        rw [hz] at hzz
        have hs0 := sumP_nonneg (gd_outF H1.out.st.gd (farI sd qs)).pos
        have hw : IntKind.u64.wrap (lo + z) = lo + z := by have := H1.out.sm; have := HT.out; simp only [IntKind.wrap_u64]; omega
        have H3 : Hid (Shd w (((w3.setCell ⟨b, 2, none⟩ (.int .u64 (lo + z))).alloc (.cells #[.int .i64 x, .int .u64 z] 34)).drew) b c S' most e tot ps (outF qs (farI sd qs))) := by
          have hsq := H1.out.sm
          have hbl : ∀ W : World, Below W.heap.size W ((W.alloc (.cells #[.int .i64 x, .int .u64 z] 34)).drew) := fun W => ((Below.refl _ _).alloc (Nat.le_refl _) _).drew
          refine ⟨H1.out.nb, ?_, (hS3.frame (Frame.set [b] _ b 2 _ (by simp)) (fun k hk e => by simp at e; subst e; exact H1.out.nb hk)).below (hbl _), ?_, by omega, ?_⟩
          · rw [show tot - sumP (outF qs (farI sd qs)) = lo + z by omega]
            exact (s3.set_any 2 _ rfl).below (hbl _)
          · rw [near_out (farI sd qs) (farI_lt h0) (by rw [HX.out]; exact HG.out)]
            exact H1.out.nr
          · exact ((H1.out.fr.trans (hF3.mono fun k hk => by simp [hk])).setc (.inl (by simp)) 2 _).trans (Frame.of_below (hbl _))
        have HL : Hid ((outF qs (farI sd qs)).length < qs.length) := by
          have := outF_length (farI_lt (s := sd) h0)
          have := List.length_pos_iff.2 h0
          show _ < _
          omega
        rw [hlo] at s3
        have f3 := (s3.alloc (.cells #[.int .i64 x, .int .u64 z] 34)).three
        clear s3 hS3 hF3 hlo hz hsm hzz hs0 H f2 l2
        go_wp2
        go_region
        go_wp2
        go_roundw
        case rel => exact ⟨_, H3⟩
        case measure => rw [H3.out.st.lenC, HMS.out]; exact HL.out
      · rw [decide_eq_false hg]
        have HR : Hid (At w1 b #[.int .i64 most, .pointer (some ⟨c, 0, none⟩), .int .u64 (tot - sumP (near sd most e ps))] 63 ∧ Strip w1 c S' most (near sd most e ps) ∧ Frame (b :: S') w w1) := by
          have := H1.out.nr
          rw [near_all H1.out.st.gd (by rw [HX.out]; omega)] at this
          rw [← this]
          exact ⟨H1.out.at', H1.out.st, H1.out.fr⟩
        clear hg
        go_wp2
        exact bodyPost_ret (v := .tuple #[]) (by simp [results, Try.f44, go_sem]) rfl ⟨rfl, HR.out⟩

theorem okP.end' {s : Bool} {ps : List (Int × Int)} (h : okP ps) (h0 : ps ≠ []) : -9223372036854775808 ≤ endP s ps ∧ endP s ps ≤ 9223372036854775807 := by
  obtain ⟨x, hx, e⟩ := endP_mem (s := s) h0
  rw [← e]
  exact (h x hx).1

/-- What an addition leaves. -/
def LadR (b : Nat) (S : List Nat) (most : Int) (ps : List (Int × Int)) (tot q cc : Int) (w w' : World) : Prop :=
  ∃ S', GrownS S S' w.heap.size ∧ High w' b S' most (capRow sd most ps q cc) (tot + cc) ∧ Frame S w w'

/-- The strip takes what has room. -/
theorem lput_add {w w1 w2 : World} {b c : Nat} {S' : List Nat} {most tot q cc : Int} {ps : List (Int × Int)} {e : Ending} (h : High w b (b :: S') most ps tot) (hf : Frame (b :: S') w w1) (hn : b ∉ S')
    (h1 : At w1 b #[.int .i64 most, .pointer (some ⟨c, 0, none⟩), .int .u64 (tot - sumP (near sd most q ps))] 63) (hq : ¬ (ps.length ≠ 0 ∧ most ≤ gap sd (endP sd ps) q)) (hc : 0 < cc) (ht : tot + cc ≤ 9223372036854775807)
    (hs : SadR c S' most (near sd most q ps) q cc w1 e w2) : e = .returned (.int .i64 0) ∧ LadR b (b :: S') most ps tot q cc w w2 := by
  have h2 : cnt ps q + cc < 18446744073709551616 := by have := cnt_le_sumP h.gd.pos q; have := h.lo; omega
  have h3 := near_room (s := sd) h.gd h.win h.m1 hc (by have := h.lo; omega) hq
  have hng := near_gd (s := sd) (most := most) (e := q) h.gd
  have hnc : cnt (near sd most q ps) q + cc < 18446744073709551616 := near_small h.gd h2
  obtain ⟨rfl, S2, g2, hS2, hF2⟩ := hs
  unfold stStep at hS2
  rw [if_pos ⟨hc, h3⟩, ← capRow_no hq] at hS2
  have hsum := sumP_rowAdd hng hc hnc
  rw [← capRow_no hq] at hsum
  refine ⟨by unfold stCode; rw [if_pos hc, if_pos h3], b :: S2, fun k hk => ?_, ⟨⟨c, S2, rfl, fun hb => ?_, ?_, hS2⟩, capRow_win h.gd h.win h.m1 hc h2, h.m1, ?_, ht⟩, hf.trans (hF2.mono fun k hk => by simp [hk])⟩
  · rcases List.mem_cons.1 hk with rfl | hk
    · exact .inl (by simp)
    · rcases g2 k hk with h | h
      · exact .inl (by simp [h])
      · exact .inr (Nat.le_trans hf.size h)
  · rcases g2 b hb with h | h
    · exact hn h
    · have := h1.lt; omega
  · rw [show tot + cc - sumP (capRow sd most ps q cc) = tot - sumP (near sd most q ps) by omega]
    exact hF2.at h1 hn
  · have := (near_sum (s := sd) (most := most) (e := q) h.gd).2
    have := h.lo
    omega

set_option maxRecDepth 100000 in
theorem lput_any (b : Nat) (S : List Nat) (most tot q cc : Int) (ps : List (Int × Int)) (w : World) (h : High w b S most ps tot) (hc : 0 < cc) (ht : tot + cc ≤ 9223372036854775807) (hq : -9223372036854775808 ≤ q ∧ q ≤ 9223372036854775807) :
    Calls Try.prog 34 #[.pointer (some ⟨b, 0, none⟩), .int .i64 q, .int .u64 cc] w fun r w' => r = .returned (.tuple #[]) ∧ LadR b S most ps tot q cc w w' := by
  have H := Lib.hid h
  have HM : Hid (1 ≤ most ∧ most ≤ 4096) := ⟨h.m1, h.most4⟩
  have HO := Lib.hid h.ok
  have HG := Lib.hid h.gd
  have HCT : Hid (0 < cc ∧ tot + cc ≤ 9223372036854775807 ∧ 0 ≤ sumP ps ∧ sumP ps ≤ tot) := ⟨hc, ht, h.sum0, h.lo⟩
  have HQ := Lib.hid hq
  obtain ⟨⟨c, S', rfl, hbn, s1, hS⟩, _⟩ := id h
  have HBN := Lib.hid hbn
  have HS := Lib.hid hS
  have HSA := Lib.hid (fun (p : List (Int × Int)) (W : World) (hW : Strip W c S' most p) => sadd_any c S' most p q cc W hW (Int.le_of_lt hc) (by have := h.lo; have := h.sum0; omega) hq)
  have HR := Lib.hid h.r
  clear hS hbn hc ht hq h
  by_cases h0 : ps = []
  · subst h0
    have HNQ : Hid (¬ (([] : List (Int × Int)).length ≠ 0 ∧ most ≤ gap sd (endP sd []) q)) := fun k => k.1 rfl
    go_enter Try.func34, Try.ntmps34
    go_wp2_with fail
    refine (lend_any b _ most _ [] w HR.out).mono ?_
    rintro r w1 ⟨rfl, hb⟩
    rw [show endV sd [] = .tuple #[.int .i64 0, .bool false] from rfl]
    have HF := Lib.hid (Frame.of_below hb (S := b :: S'))
    have s2 := s1.below hb
    have HS2 := Lib.hid (HS.out.below hb)
    have f2 := s2.three
    have l2 := s2.lt
    clear s1 HR hb
    go_wp2_with fail
    refine (HSA.out [] w1 HS2.out).mono ?_
    intro r w2 hR
    obtain ⟨rfl, hL⟩ := lput_add H.out HF.out HBN.out s2 HNQ.out HCT.out.1 HCT.out.2.1 hR
    clear hR s2
    go_wp2
    exact bodyPost_end (results_none rfl _ _ _) rfl ⟨rfl, hL⟩
  · have HE := Lib.hid (okP.end' (s := sd) HO.out h0)
    obtain ⟨e, he⟩ : ∃ e, endP sd ps = e := ⟨_, rfl⟩
    have HEE := Lib.hid he
    have HV : Hid (endV sd ps = .tuple #[.int .i64 e, .bool true]) := by show _ = _; unfold endV; rw [if_neg (ne_len.2 h0), he]
    rw [he] at HE
    clear he
    go_enter Try.func34, Try.ntmps34
    go_wp2_with fail
    refine (lend_any b _ most _ ps w HR.out).mono ?_
    rintro r w1 ⟨rfl, hb⟩
    rw [HV.out]
    have HF := Lib.hid (Frame.of_below hb (S := b :: S'))
    have s2 := s1.below hb
    have HS2 := Lib.hid (HS.out.below hb)
    have f2 := s2.three
    have l2 := s2.lt
    clear s1 HR hb
    go_wp2_with fail
    refine (lout_any b (b :: S') most (tot - sumP ps) q e ps w1 ⟨c, S', rfl, HBN.out, s2, HS2.out⟩ HM.out HQ.out HE.out).mono ?_
    rintro r w2 ⟨rfl, rfl⟩
    by_cases hg : most ≤ gap sd e q
    · rw [decide_eq_true hg]
      obtain ⟨lo, hlo⟩ : ∃ lo, tot - sumP ps = lo := ⟨_, rfl⟩
      have hw : IntKind.u64.wrap (lo + cc) = lo + cc := by have := HCT.out; simp only [IntKind.wrap_u64]; omega
      have HL : Hid (LadR b (b :: S') most ps tot q cc w (w1.setCell ⟨b, 2, none⟩ (.int .u64 (lo + cc)))) := by
        refine ⟨b :: S', GrownS.refl _ _, ?_, HF.out.setc (.inl (by simp)) 2 _⟩
        rw [capRow_yes (ne_len.2 h0) (by rw [HEE.out]; exact hg)]
        have e1 : tot + cc - sumP ps = lo + cc := by omega
        refine ⟨?_, H.out.win, HM.out.1, by have := HCT.out; omega, HCT.out.2.1⟩
        rw [e1]
        exact HighR.set (lost := tot - sumP ps) ⟨c, S', rfl, HBN.out, s2, HS2.out⟩
      rw [hlo] at f2
      clear hlo hg s2
      go_wp2
      exact bodyPost_ret (results_none rfl _ _ _) rfl ⟨rfl, HL.out⟩
    · rw [decide_eq_false hg]
      have HNQ : Hid (¬ (ps.length ≠ 0 ∧ most ≤ gap sd (endP sd ps) q)) := fun k => hg (by rw [← HEE.out]; exact k.2)
      by_cases hlt : q < e
      · clear hg
        go_wp2_with fail
        refine (lshed_any b c S' most tot q ps w1 HBN.out s2 HS2.out HM.out HQ.out HCT.out.2.2.2 (by have := HCT.out; omega)).mono ?_
        rintro r w3 ⟨rfl, s3, hS3, hF3⟩
        have HF3 := Lib.hid (HF.out.trans hF3)
        have HS3 := Lib.hid hS3
        have f3 := s3.three
        have l3 := s3.lt
        clear s2 f2 l2 hS3 hF3
        go_wp2_with fail
        refine (HSA.out _ w3 HS3.out).mono ?_
        intro r w2 hR
        obtain ⟨rfl, hL⟩ := lput_add H.out HF3.out HBN.out s3 HNQ.out HCT.out.1 HCT.out.2.1 hR
        clear hR s3
        go_wp2
        exact bodyPost_end (results_none rfl _ _ _) rfl ⟨rfl, hL⟩
      · have HN : Hid (near sd most q ps = ps) := near_self HG.out H.out.win (by rw [HEE.out]; show 0 ≤ q - e; omega)
        clear hg
        go_wp2_with fail
        refine (HSA.out ps w1 HS2.out).mono ?_
        intro r w2 hR
        obtain ⟨rfl, hL⟩ := lput_add H.out HF.out HBN.out (by rw [HN.out]; exact s2) HNQ.out HCT.out.1 HCT.out.2.1 (by rw [HN.out]; exact hR)
        clear hR s2
        go_wp2
        exact bodyPost_end (results_none rfl _ _ _) rfl ⟨rfl, hL⟩

theorem ladd_zero (b : Nat) (q : Int) (w : World) : Calls Try.prog 11 #[.pointer (some ⟨b, 0, none⟩), .int .i64 q, .int .u64 0] w fun e w' => e = .returned (.int .i64 1) ∧ w = w' := by
  go_enter Try.func11, Try.ntmps11
  go_wp2
  go_ret
  exact ⟨rfl, rfl⟩
theorem ladd_full (b : Nat) (S : List Nat) (most tot q cc : Int) (ps : List (Int × Int)) (w : World) (h : High w b S most ps tot) (hc : 0 < cc) (hc' : cc < 18446744073709551616) (ht : 9223372036854775807 < tot + cc) :
    Calls Try.prog 11 #[.pointer (some ⟨b, 0, none⟩), .int .i64 q, .int .u64 cc] w fun e w' => e = .returned (.int .i64 6) ∧ Below w.heap.size w w' := by
  have HT := Lib.hid (ltotal_any b S most tot ps w h)
  have H0 : Hid (0 < cc ∧ cc < 18446744073709551616 ∧ 0 ≤ tot ∧ tot ≤ 9223372036854775807) := ⟨hc, hc', by have := h.sum0; have := h.lo; omega, h.hi⟩
  have hcc : (cc == 0) = false := beq_eq_false_iff_ne.2 (by omega)
  obtain ⟨p1, p2⟩ := plus2_no (a := tot) (b := cc) (by omega)
  have HP := Lib.hid (And.intro p1 p2)
  clear h hc hc' ht p1 p2
  go_enter Try.func11, Try.ntmps11
  go_wp2_with fail
  refine HT.out.mono ?_
  rintro e w1 ⟨rfl, hb⟩
  go_wp2_with fail
  have a1 := At.new w1 #[.int .u64 tot, .int .u64 cc] 32
  refine (plus2_any w1.heap.size tot cc _ (by have := H0.out; omega) (by have := H0.out; omega) (by have := H0.out; omega) (by have := H0.out; omega) (a1.cell rfl) (a1.cell rfl)).mono ?_
  rintro e w2 ⟨rfl, rfl⟩
  have z1 := hb.size
  rw [HP.out.1, HP.out.2]
  clear a1
  go_wp2
  go_ret
  exact ⟨rfl, (by repeat (first | with_reducible assumption | with_reducible exact Below.refl _ _ | with_reducible refine Below.drew ?_ | with_reducible refine Below.drewN ?_ _ | with_reducible refine Below.setCell ?_ (by first | omega | (simp; done) | (simp; omega)) _ | with_reducible refine Below.alloc ?_ (by first | omega | (simp; done) | (simp; omega) | (simp [World.setCell]; omega)) _))⟩
theorem ladd_any (b : Nat) (S : List Nat) (most tot q cc : Int) (ps : List (Int × Int)) (w : World) (h : High w b S most ps tot) (hc : 0 < cc) (ht : tot + cc ≤ 9223372036854775807) (hq : -9223372036854775808 ≤ q ∧ q ≤ 9223372036854775807) :
    Calls Try.prog 11 #[.pointer (some ⟨b, 0, none⟩), .int .i64 q, .int .u64 cc] w fun e w' => e = .returned (.int .i64 0) ∧ LadR b S most ps tot q cc w w' := by
  have HT := Lib.hid (ltotal_any b S most tot ps w h)
  have H0 : Hid (0 < cc ∧ cc < 18446744073709551616 ∧ 0 ≤ tot ∧ tot ≤ 9223372036854775807) := ⟨hc, by have := h.sum0; have := h.lo; omega, by have := h.sum0; have := h.lo; omega, h.hi⟩
  have hcc : (cc == 0) = false := beq_eq_false_iff_ne.2 (by omega)
  obtain ⟨p1, p2⟩ := plus2_yes (a := tot) (b := cc) (by omega)
  have HP := Lib.hid (And.intro p1 p2)
  have HPUT := Lib.hid (fun (W : World) (hb : Below w.heap.size w W) => lput_any b S most tot q cc ps W (h.below hb) hc ht hq)
  clear h hc ht hq p1 p2
  go_enter Try.func11, Try.ntmps11
  go_wp2_with fail
  refine HT.out.mono ?_
  rintro e w1 ⟨rfl, hb⟩
  go_wp2_with fail
  have a1 := At.new w1 #[.int .u64 tot, .int .u64 cc] 32
  refine (plus2_any w1.heap.size tot cc _ (by have := H0.out; omega) (by have := H0.out; omega) (by have := H0.out; omega) (by have := H0.out; omega) (a1.cell rfl) (a1.cell rfl)).mono ?_
  rintro e w2 ⟨rfl, rfl⟩
  have z1 := hb.size
  rw [HP.out.1, HP.out.2]
  have hB2 : Below w.heap.size w (w1.alloc (.cells #[.int .u64 tot, .int .u64 cc] 32)) := (by repeat (first | with_reducible assumption | with_reducible exact Below.refl _ _ | with_reducible refine Below.drew ?_ | with_reducible refine Below.drewN ?_ _ | with_reducible refine Below.setCell ?_ (by first | omega | (simp; done) | (simp; omega)) _ | with_reducible refine Below.alloc ?_ (by first | omega | (simp; done) | (simp; omega) | (simp [World.setCell]; omega)) _))
  have HB := Lib.hid hB2
  clear a1 hb hB2
  go_wp2_with fail
  refine (HPUT.out _ HB.out).mono ?_
  rintro e w3 ⟨rfl, S', hg, hL, hF⟩
  have HL : Hid (LadR b S most ps tot q cc w w3) := ⟨S', fun k hk => (hg k hk).imp id (fun h => Nat.le_trans HB.out.size h), hL, (Frame.of_below HB.out).trans hF⟩
  clear hg hL hF
  go_wp2
  go_ret
  exact ⟨rfl, HL.out⟩
theorem lnil_add (q cc : Int) (w : World) : Calls Try.prog 11 #[.pointer none, .int .i64 q, .int .u64 cc] w fun e w' => e = .returned (.int .i64 2) ∧ w = w' := by
  go_enter Try.func11, Try.ntmps11
  go_wp2
  go_ret
  exact ⟨rfl, rfl⟩
end Go.Proofs.Ytooojpicbbpaaaa

