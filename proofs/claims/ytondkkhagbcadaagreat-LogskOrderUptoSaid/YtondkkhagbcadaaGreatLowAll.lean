/- Contracts of package lowcap: New, out, end, Total, Lost, Pairs, At, Most. -/
import Derived.Test.YtondkkhagbcadaaGreatProg
import Derived.Test.YtondkkhagbcadaaGreatStripAll
import Derived.Test.YtondkkhagbcadaaGreatWalks
import Derived.Test.YtondkkhagbcadaaGreatCapAll
import Derived.LoopNIn
import Derived.BigQuiet
import Derived.Deep.QuietTactic
import Derived.Test.YtondkkhagbcadaaGreatGood
namespace Go.Proofs.YtondkkhagbcadaaGreat.Lo
open Go.RowKit

/-- The end next to which all is kept: the last one. -/
abbrev sd : Bool := true
/-- A block of three cells, and a strip of its own. -/
def LowR (w : World) (b : Nat) (S : List Nat) (most : Int) (ps : List (Int × Int)) (lost : Int) : Prop :=
  ∃ c S', S = b :: S' ∧ b ∉ S' ∧ At w b #[.int .i64 most, .pointer (some ⟨c, 0, none⟩), .int .u64 lost] 162 ∧ Strip w c S' most ps
section
variable {w w' : World} {b : Nat} {S T : List Nat} {most lost lost' : Int} {ps : List (Int × Int)}
theorem LowR.frame (h : LowR w b S most ps lost) (hf : Frame T w w') (hn : Apart S T) : LowR w' b S most ps lost := by
  obtain ⟨c, S', rfl, h1, h2, h3⟩ := h
  exact ⟨c, S', rfl, h1, hf.at h2 (hn b (by simp)), h3.frame hf fun k hk => hn k (by simp [hk])⟩
theorem LowR.below (h : LowR w b S most ps lost) (hb : Below w.heap.size w w') : LowR w' b S most ps lost := h.frame (T := []) (Frame.of_below hb) (fun _ _ => by simp)
theorem LowR.lt (h : LowR w b S most ps lost) : ∀ k ∈ S, k < w.heap.size := by
  obtain ⟨c, S', rfl, h1, h2, h3⟩ := h
  intro k hk
  rcases List.mem_cons.1 hk with rfl | hk
  · exact h2.lt
  · exact h3.lt k hk
theorem LowR.mem (h : LowR w b S most ps lost) : b ∈ S := by obtain ⟨c, S', rfl, _⟩ := h; simp
theorem LowR.set (h : LowR w b S most ps lost) : LowR (w.setCell ⟨b, 2, none⟩ (.int .u64 lost')) b S most ps lost' := by
  obtain ⟨c, S', rfl, h1, h2, h3⟩ := h
  exact ⟨c, S', rfl, h1, h2.set_any 2 _ rfl, h3.frame (Frame.set [b] _ b 2 _ (by simp)) fun k hk e => by simp at e; subst e; exact h1 hk⟩
end

/-- What is kept, and how many there are in all. -/
structure Low (w : World) (b : Nat) (S : List Nat) (most : Int) (ps : List (Int × Int)) (tot : Int) : Prop where
  r : LowR w b S most ps (tot - sumP ps)
  win : Win sd most ps
  m1 : 1 ≤ most
  lo : sumP ps ≤ tot
  hi : tot ≤ 9223372036854775807
section
variable {w w' : World} {b : Nat} {S T : List Nat} {most tot : Int} {ps : List (Int × Int)}
theorem Low.frame (h : Low w b S most ps tot) (hf : Frame T w w') (hn : Apart S T) : Low w' b S most ps tot := ⟨h.r.frame hf hn, h.win, h.m1, h.lo, h.hi⟩
theorem Low.below (h : Low w b S most ps tot) (hb : Below w.heap.size w w') : Low w' b S most ps tot := ⟨h.r.below hb, h.win, h.m1, h.lo, h.hi⟩
theorem Low.lt (h : Low w b S most ps tot) : ∀ k ∈ S, k < w.heap.size := h.r.lt
theorem Low.gd (h : Low w b S most ps tot) : Gd ps := by obtain ⟨c, S', _, _, _, h⟩ := h.r; exact h.gd
theorem Low.ok (h : Low w b S most ps tot) : okP ps := by obtain ⟨c, S', _, _, _, h⟩ := h.r; exact h.ok
theorem Low.len (h : Low w b S most ps tot) : (ps.length : Int) ≤ most ∧ ps.length ≤ 4096 := by obtain ⟨c, S', _, _, _, h⟩ := h.r; exact h.len
theorem Low.most4 (h : Low w b S most ps tot) : most ≤ 4096 := by obtain ⟨c, S', _, _, _, A, k, _, h⟩ := h.r; exact h.most1
theorem Low.sum0 (h : Low w b S most ps tot) : 0 ≤ sumP ps := sumP_nonneg h.gd.pos
end

theorem lnew_any (most : Int) (w : World) (h1 : 1 ≤ most) (h2 : most ≤ 4096) :
    Calls Tryz.prog 88 #[.int .i64 most] w fun e w' => (∃ b S, e = .returned (.tuple #[.pointer (some ⟨b, 0, none⟩), .int .i64 0]) ∧ w.heap.size ≤ b ∧ Within S w.heap.size w'.heap.size ∧ Low w' b S most [] 0) ∧ Below w.heap.size w w' := by
  have HS := Lib.hid (snew_any most w h1 h2)
  have H1 := Lib.hid (And.intro h1 h2)
  clear h1 h2
  go_enter Tryz.func88, Tryz.ntmps88
  go_wp2_with fail
  refine HS.out.mono ?_
  rintro e w1 ⟨⟨c, rfl, hc, hC⟩, hb⟩
  have HC := Lib.hid hC
  have z1 := hb.size
  have hcl := hC.lt c (by simp)
  have hcg : w.heap.size ≤ c := Nat.le_of_eq hc.symm
  clear hC hc
  go_wp2
  go_ret2
  have a1 := At.new w1 #[.int .i64 most, .pointer (some ⟨c, 0, none⟩), .int .u64 0] 162
  have hb2 : Below w1.heap.size w1 (w1.alloc (.cells #[.int .i64 most, .pointer (some ⟨c, 0, none⟩), .int .u64 0] 162)) := (by repeat (first | with_reducible assumption | with_reducible exact Below.refl _ _ | with_reducible refine Below.drew ?_ | with_reducible refine Below.drewN ?_ _ | with_reducible refine Below.setCell ?_ (by first | omega | (simp; done) | (simp; omega)) _ | with_reducible refine Below.alloc ?_ (by first | omega | (simp; done) | (simp; omega) | (simp [World.setCell]; omega)) _))
  refine ⟨⟨_, [w1.heap.size, c], rfl, z1, ?_, ⟨⟨c, [c], rfl, by simp; omega, a1, HC.out.below hb2⟩, win_nil, H1.out.1, by rw [sumP_nil]; omega, by omega⟩⟩, (by repeat (first | with_reducible assumption | with_reducible exact Below.refl _ _ | with_reducible refine Below.drew ?_ | with_reducible refine Below.drewN ?_ _ | with_reducible refine Below.setCell ?_ (by first | omega | (simp; done) | (simp; omega)) _ | with_reducible refine Below.alloc ?_ (by first | omega | (simp; done) | (simp; omega) | (simp [World.setCell]; omega)) _))⟩
  intro k hk
  have := a1.lt
  simp only [List.mem_cons, List.not_mem_nil, or_false] at hk
  rcases hk with rfl | rfl
  · omega
  · omega
theorem lnew_bad (most : Int) (w : World) (h : most < 1 ∨ 4096 < most) :
    Calls Tryz.prog 88 #[.int .i64 most] w fun e w' => e = .returned (.tuple #[.pointer none, .int .i64 1]) ∧ w = w' := by
  have HS := Lib.hid (snew_bad most w h)
  clear h
  go_enter Tryz.func88, Tryz.ntmps88
  go_wp2_with fail
  refine HS.out.mono ?_
  rintro e w1 ⟨rfl, rfl⟩
  go_wp2
  go_ret2
  exact ⟨rfl, rfl⟩

theorem lout_any (b : Nat) (S : List Nat) (most lost q e : Int) (ps : List (Int × Int)) (w : World) (h : LowR w b S most ps lost) (hm : 1 ≤ most ∧ most ≤ 4096) (hq : -9223372036854775808 ≤ q ∧ q ≤ 9223372036854775807) (he : -9223372036854775808 ≤ e ∧ e ≤ 9223372036854775807) :
    Calls Tryz.prog 103 #[.pointer (some ⟨b, 0, none⟩), .int .i64 q, .int .i64 e] w fun r w' => r = .returned (.bool (decide (most ≤ gap sd e q))) ∧ w = w' := by
  obtain ⟨c, S', _, _, s1, _⟩ := h
  have f1 := s1.three
  obtain ⟨x, hx⟩ : ∃ x, IntKind.u64.wrap e = x := ⟨_, rfl⟩
  obtain ⟨y, hy⟩ : ∃ y, IntKind.u64.wrap q = y := ⟨_, rfl⟩
  have hm' : IntKind.u64.wrap most = most := by simp only [IntKind.wrap_u64]; omega
  have hg : gap sd e q = e - q := rfl
  by_cases h1 : q < e
  · have hd : IntKind.u64.wrap (x - y) = e - q := by subst hx hy; simp only [IntKind.wrap_u64]; omega
    rw [hg]
    clear hg
    by_cases h2 : most ≤ e - q
    · rw [decide_eq_true h2]
      clear hq he hm
      go_enter Tryz.func103, Tryz.ntmps103
      go_wp2
      go_ret
      exact ⟨rfl, rfl⟩
    · rw [decide_eq_false h2]
      clear hq he hm
      go_enter Tryz.func103, Tryz.ntmps103
      go_wp2
      go_ret
      exact ⟨rfl, rfl⟩
  · rw [hg, decide_eq_false (by omega)]
    clear hg hq he hm hx hy
    go_enter Tryz.func103, Tryz.ntmps103
    go_wp2
    go_ret
    exact ⟨rfl, rfl⟩

/-- The end. -/
def endV (s : Bool) (ps : List (Int × Int)) : Value := if ps.length = 0 then .tuple #[.int .i64 0, .bool false] else .tuple #[.int .i64 (endP s ps), .bool true]
theorem lend_any (b : Nat) (S : List Nat) (most lost : Int) (ps : List (Int × Int)) (w : World) (h : LowR w b S most ps lost) :
    Calls Tryz.prog 102 #[.pointer (some ⟨b, 0, none⟩)] w fun r w' => r = .returned (endV sd ps) ∧ Below w.heap.size w w' := by
  obtain ⟨c, S', _, _, s1, hS⟩ := h
  have f1 := s1.three
  have HC := Lib.hid (sends_any c S' most ps w hS)
  clear hS
  by_cases h0 : ps.length = 0
  · have HE : Hid (endV sd ps = .tuple #[.int .i64 0, .bool false]) := by show _ = _; unfold endV; rw [if_pos h0]
    have HE2 : Hid (endsV ps = .tuple #[.int .i64 0, .int .i64 0, .bool false]) := by show _ = _; unfold endsV; rw [if_pos h0]
    clear h0
    go_enter Tryz.func102, Tryz.ntmps102
    go_wp2_with fail
    refine HC.out.mono ?_
    rintro e w1 ⟨rfl, hb⟩
    rw [HE2.out]
    go_wp2
    go_ret2
    exact ⟨by rw [HE.out]; rfl, hb⟩
  · have HE : Hid (endV sd ps = .tuple #[.int .i64 (ps.getD (ps.length - 1) (0, 0)).1, .bool true]) := by show _ = _; unfold endV; rw [if_neg h0]; rfl
    have HE2 : Hid (endsV ps = .tuple #[.int .i64 (ps.getD 0 (0, 0)).1, .int .i64 (ps.getD (ps.length - 1) (0, 0)).1, .bool true]) := by show _ = _; unfold endsV; rw [if_neg h0]
    clear h0
    obtain ⟨x, hx⟩ : ∃ x, (ps.getD (ps.length - 1) (0, 0)).1 = x := ⟨_, rfl⟩
    obtain ⟨y, hy⟩ : ∃ x, (ps.getD 0 (0, 0)).1 = x := ⟨_, rfl⟩
    rw [hx] at HE HE2
    rw [hy] at HE2
    clear hx hy
    go_enter Tryz.func102, Tryz.ntmps102
    go_wp2_with fail
    refine HC.out.mono ?_
    rintro e w1 ⟨rfl, hb⟩
    rw [HE2.out]
    go_wp2
    go_ret2
    exact ⟨by rw [HE.out]; rfl, hb⟩

theorem ltotal_any (b : Nat) (S : List Nat) (most tot : Int) (ps : List (Int × Int)) (w : World) (h : Low w b S most ps tot) :
    Calls Tryz.prog 93 #[.pointer (some ⟨b, 0, none⟩)] w fun r w' => r = .returned (.int .u64 tot) ∧ Below w.heap.size w w' := by
  have hw : IntKind.u64.wrap (sumP ps + (tot - sumP ps)) = tot := by have := h.lo; have := h.hi; have := h.sum0; simp only [IntKind.wrap_u64]; omega
  obtain ⟨⟨c, S', _, _, s1, hS⟩, _⟩ := h
  have HS := Lib.hid hS
  obtain ⟨lo, hlo⟩ : ∃ lo, tot - sumP ps = lo := ⟨_, rfl⟩
  rw [hlo] at s1 hw
  clear hS hlo
  go_enter Tryz.func93, Tryz.ntmps93
  go_wp2
  have hfar1 := fun x : Far w => (x.at s1).three
  refine wp_region_far (by kernel_rfl) (by kernel_rfl) ?_
  repeat (first | go_big_quiet_skip | (go_big_quiet_want; go_big_quiet_op; first | go_big_quiet_on | (apply Exists.intro; refine ⟨fun _ => ?_, ?_⟩; (focus (first | (refine far_of_same ((stotal_any c S' most ps _ (HS.out.below (Far.below _))).mono fun _ _ h => ⟨h.1, h.2.symm⟩)))); go_big_quiet_on)))
  refine wpQuiet_nil ?_
  rintro _ ⟨xq, rfl⟩
  clear hfar1
  go_wp2
  go_ret
  exact ⟨rfl, Far.below _⟩
theorem llost_any (b : Nat) (S : List Nat) (most tot : Int) (ps : List (Int × Int)) (w : World) (h : Low w b S most ps tot) :
    Calls Tryz.prog 154 #[.pointer (some ⟨b, 0, none⟩)] w fun r w' => r = .returned (.int .u64 (tot - sumP ps)) ∧ w = w' := by
  obtain ⟨⟨c, S', _, _, s1, hS⟩, _⟩ := h
  have f1 := s1.three
  clear hS
  go_enter Tryz.func154, Tryz.ntmps154
  go_wp2
  go_ret
  exact ⟨rfl, rfl⟩
theorem lpairs_any (b : Nat) (S : List Nat) (most tot : Int) (ps : List (Int × Int)) (w : World) (h : Low w b S most ps tot) :
    Calls Tryz.prog 155 #[.pointer (some ⟨b, 0, none⟩)] w fun e w' => CloR ps w e w' := by
  obtain ⟨⟨c, S', _, _, s1, hS⟩, _⟩ := h
  have f1 := s1.three
  have HC := Lib.hid (spairs_any c S' most ps w hS)
  clear hS
  go_enter Tryz.func155, Tryz.ntmps155
  go_wp2_with fail
  refine HC.out.mono ?_
  rintro e w' ⟨A', c', rfl, ho, hb⟩
  have HR : Hid (CloR ps w (.returned (.slice A' ps.length c')) w') := ⟨A', c', rfl, ho, hb⟩
  clear ho hb
  go_wp2
  go_ret
  exact HR.out
end Go.Proofs.YtondkkhagbcadaaGreat.Lo
/- Contracts of package lowcap: shed, put, Add. -/
namespace Go.Proofs.YtondkkhagbcadaaGreat.Lo
open Go.RowKit

/-- A round of shed: what is left, and lost. -/
structure Shd (w wr : World) (b c : Nat) (S' : List Nat) (most e tot : Int) (ps qs : List (Int × Int)) : Prop where
  nb : b ∉ S'
  at' : At wr b #[.int .i64 most, .pointer (some ⟨c, 0, none⟩), .int .u64 (tot - sumP qs)] 162
  st : Strip wr c S' most qs
  nr : near sd most e qs = near sd most e ps
  sm : sumP qs ≤ tot
  fr : Frame (b :: S') w wr

set_option maxRecDepth 100000 in
theorem lshed_any (b c : Nat) (S' : List Nat) (most tot e : Int) (ps : List (Int × Int)) (w : World) (hbn : b ∉ S') (s1 : At w b #[.int .i64 most, .pointer (some ⟨c, 0, none⟩), .int .u64 (tot - sumP ps)] 162) (hS : Strip w c S' most ps)
    (hm : 1 ≤ most ∧ most ≤ 4096) (he : -9223372036854775808 ≤ e ∧ e ≤ 9223372036854775807) (hs : sumP ps ≤ tot) (ht : tot ≤ 9223372036854775807) :
    Calls Tryz.prog 104 #[.pointer (some ⟨b, 0, none⟩), .int .i64 e] w fun r w' => r = .returned (.tuple #[]) ∧ At w' b #[.int .i64 most, .pointer (some ⟨c, 0, none⟩), .int .u64 (tot - sumP (near sd most e ps))] 162 ∧ Strip w' c S' most (near sd most e ps) ∧ Frame (b :: S') w w' := by
  have H0 : Hid (Shd w w b c S' most e tot ps ps) := ⟨hbn, s1, hS, rfl, hs, Frame.refl _ _⟩
  have HM := Lib.hid hm
  have HE := Lib.hid he
  have HT := Lib.hid ht
  clear hbn s1 hS hs hm he ht
  go_enter Tryz.func104, Tryz.ntmps104
  go_wp2
  go_loopw [4, 5, 6, 7, 8] (fun _ _ _ _ _ wr => ∃ qs, Hid (Shd w wr b c S' most e tot ps qs)) (fun _ _ _ _ _ wr => lenC wr c)
  case atStart => exact ⟨ps, H0⟩
  case round =>
    obtain ⟨qs, H⟩ := hrel
    clear H0
    have f1 := H.out.at'.three
    have s1 := H.out.at'
    have l1 := s1.lt
    by_cases h0 : qs = []
    · subst h0
      go_wp2_with fail
      refine (sends_any c S' most [] wr H.out.st).mono ?_
      rintro r w1 ⟨rfl, hb⟩
      rw [show endsV [] = .tuple #[.int .i64 0, .int .i64 0, .bool false] from rfl]
      have HR : Hid (At w1 b #[.int .i64 most, .pointer (some ⟨c, 0, none⟩), .int .u64 (tot - sumP (near sd most e ps))] 162 ∧ Strip w1 c S' most (near sd most e ps) ∧ Frame (b :: S') w w1) := by
        have := H.out.nr
        rw [near_nil] at this
        rw [← this]
        exact ⟨s1.below hb, H.out.st.below hb, H.out.fr.trans (Frame.of_below hb)⟩
      clear hb
      go_wp2
      exact bodyPost_ret (v := .tuple #[]) (by simp [results, Tryz.f104, go_sem]) rfl ⟨rfl, HR.out⟩
    · go_wp2_with fail
      refine (sends_any c S' most qs wr H.out.st).mono ?_
      rintro r w1 ⟨rfl, hb⟩
      rw [endsV_ne h0]
      have H1 : Hid (Shd w w1 b c S' most e tot ps qs) := ⟨H.out.nb, s1.below hb, H.out.st.below hb, H.out.nr, H.out.sm, H.out.fr.trans (Frame.of_below hb)⟩
      have HMS : Hid (lenC wr c = qs.length) := H.out.st.lenC
      have hfar : (qs.getD (farI sd qs) (0, 0)).1 = (qs.getD 0 (0, 0)).1 := rfl
      obtain ⟨x, hx⟩ : ∃ x, (qs.getD (farI sd qs) (0, 0)).1 = x := ⟨_, rfl⟩
      obtain ⟨y, hy⟩ : ∃ y, (qs.getD (qs.length - 1) (0, 0)).1 = y := ⟨_, rfl⟩
      have HX := Lib.hid hx
      have HB := Lib.hid (show -9223372036854775808 ≤ x ∧ x ≤ 9223372036854775807 from by rw [← hx]; exact (H.out.st.ok _ (getD_mem' (farI_lt h0))).1)
      rw [hx] at hfar
      rw [← hfar, hy]
      clear hb hx hy hfar
      go_wp2_with fail
      refine (lout_any b (b :: S') most (tot - sumP qs) x e qs w1 ⟨c, S', rfl, H1.out.nb, H1.out.at', H1.out.st⟩ HM.out HB.out HE.out).mono ?_
      rintro r w2 ⟨rfl, rfl⟩
      by_cases hg : most ≤ gap sd e x
      · rw [decide_eq_true hg]
        have HG := Lib.hid hg
        clear hg
        have f2 := H1.out.at'.three
        have l2 := H1.out.at'.lt
        clear f1 s1 l1
        go_wp2_with fail
        refine (sfirst_any c S' most qs w1 H1.out.st).mono ?_
        rintro r w3 ⟨rfl, hS3, hF3⟩
        rw [if_neg (ne_len.2 h0)] at hS3
        have s3 := hF3.at H1.out.at' H1.out.nb
        have l3 := s3.lt
        obtain ⟨z, hz⟩ : ∃ z, (qs.getD (farI sd qs) (0, 0)).2 = z := ⟨_, rfl⟩
        have HV : Hid (outV qs 0 = .tuple #[.agg #[.int .i64 x, .int .u64 z], .bool true]) := by
          show _ = _
          unfold outV
          rw [if_neg (ne_len.2 h0), ← hz, ← HX.out]
          rfl
        rw [HV.out]
        obtain ⟨lo, hlo⟩ : ∃ lo, tot - sumP qs = lo := ⟨_, rfl⟩
        have hsm := sumP_outF (farI_lt (s := sd) h0)
        rw [hz] at hsm
        have hzz := H1.out.st.gd.pos _ (getD_mem' (farI_lt (s := sd) h0))
        rw [hz] at hzz
        have hs0 := sumP_nonneg (gd_outF H1.out.st.gd (farI sd qs)).pos
        have hw : IntKind.u64.wrap (lo + z) = lo + z := by have := H1.out.sm; have := HT.out; simp only [IntKind.wrap_u64]; omega
        have H3 : Hid (Shd w (((w3.setCell ⟨b, 2, none⟩ (.int .u64 (lo + z))).alloc (.cells #[.int .i64 x, .int .u64 z] 106)).drew) b c S' most e tot ps (outF qs (farI sd qs))) := by
          have hsq := H1.out.sm
          have hbl : ∀ W : World, Below W.heap.size W ((W.alloc (.cells #[.int .i64 x, .int .u64 z] 106)).drew) := fun W => ((Below.refl _ _).alloc (Nat.le_refl _) _).drew
          refine ⟨H1.out.nb, ?_, (hS3.frame (Frame.set [b] _ b 2 _ (by simp)) (fun k hk e => by simp at e; subst e; exact H1.out.nb hk)).below (hbl _), ?_, by omega, ?_⟩
          · rw [show tot - sumP (outF qs (farI sd qs)) = lo + z by omega]
            exact (s3.set_any 2 _ rfl).below (hbl _)
          · rw [near_out (farI sd qs) (farI_lt h0) (by rw [HX.out]; exact HG.out)]
            exact H1.out.nr
          · exact ((H1.out.fr.trans (hF3.mono fun k hk => by simp [hk])).setc (.inl (by simp)) 2 _).trans (Frame.of_below (hbl _))
        have HL : Hid ((outF qs (farI sd qs)).length < qs.length) := by
          have := outF_length (farI_lt (s := sd) h0)
          have := List.length_pos_iff.2 h0
          show _ < _
          omega
        rw [hlo] at s3
        have f3 := (s3.alloc (.cells #[.int .i64 x, .int .u64 z] 106)).three
        clear s3 hS3 hF3 hlo hz hsm hzz hs0 H f2 l2
        go_wp2
        go_region
        go_wp2
        go_roundw
        case rel => exact ⟨_, H3⟩
        case measure => rw [H3.out.st.lenC, HMS.out]; exact HL.out
      · rw [decide_eq_false hg]
        have HR : Hid (At w1 b #[.int .i64 most, .pointer (some ⟨c, 0, none⟩), .int .u64 (tot - sumP (near sd most e ps))] 162 ∧ Strip w1 c S' most (near sd most e ps) ∧ Frame (b :: S') w w1) := by
          have := H1.out.nr
          rw [near_all H1.out.st.gd (by rw [HX.out]; omega)] at this
          rw [← this]
          exact ⟨H1.out.at', H1.out.st, H1.out.fr⟩
        clear hg
        go_wp2
        exact bodyPost_ret (v := .tuple #[]) (by simp [results, Tryz.f104, go_sem]) rfl ⟨rfl, HR.out⟩

/-- What an addition leaves. -/
def LadR (b : Nat) (S : List Nat) (most : Int) (ps : List (Int × Int)) (tot q cc : Int) (w w' : World) : Prop :=
  ∃ S', GrownS S S' w.heap.size ∧ Low w' b S' most (capRow sd most ps q cc) (tot + cc) ∧ Frame S w w'

/-- The strip takes what has room. -/
theorem lput_add {w w1 w2 : World} {b c : Nat} {S' : List Nat} {most tot q cc : Int} {ps : List (Int × Int)} {e : Ending} (h : Low w b (b :: S') most ps tot) (hf : Frame (b :: S') w w1) (hn : b ∉ S')
    (h1 : At w1 b #[.int .i64 most, .pointer (some ⟨c, 0, none⟩), .int .u64 (tot - sumP (near sd most q ps))] 162) (hq : ¬ (ps.length ≠ 0 ∧ most ≤ gap sd (endP sd ps) q)) (hc : 0 < cc) (ht : tot + cc ≤ 9223372036854775807)
    (hs : SadR c S' most (near sd most q ps) q cc w1 e w2) : e = .returned (.int .i64 0) ∧ LadR b (b :: S') most ps tot q cc w w2 := by
  have h2 : cnt ps q + cc < 18446744073709551616 := by have := cnt_le_sumP h.gd.pos q; have := h.lo; omega
  have h3 := near_room (s := sd) h.gd h.win h.m1 hc (by have := h.lo; omega) hq
  have hng := near_gd (s := sd) (most := most) (e := q) h.gd
  have hnc : cnt (near sd most q ps) q + cc < 18446744073709551616 := near_small h.gd h2
  obtain ⟨rfl, S2, g2, hS2, hF2⟩ := hs
  unfold stStep at hS2
  rw [if_pos ⟨hc, h3⟩, ← capRow_no hq] at hS2
  have hsum := sumP_rowAdd hng hc hnc
  rw [← capRow_no hq] at hsum
  refine ⟨by unfold stCode; rw [if_pos hc, if_pos h3], b :: S2, fun k hk => ?_, ⟨⟨c, S2, rfl, fun hb => ?_, ?_, hS2⟩, capRow_win h.gd h.win h.m1 hc h2, h.m1, ?_, ht⟩, hf.trans (hF2.mono fun k hk => by simp [hk])⟩
  · rcases List.mem_cons.1 hk with rfl | hk
    · exact .inl (by simp)
    · rcases g2 k hk with h | h
      · exact .inl (by simp [h])
      · exact .inr (Nat.le_trans hf.size h)
  · rcases g2 b hb with h | h
    · exact hn h
    · have := h1.lt; omega
  · rw [show tot + cc - sumP (capRow sd most ps q cc) = tot - sumP (near sd most q ps) by omega]
    exact hF2.at h1 hn
  · have := (near_sum (s := sd) (most := most) (e := q) h.gd).2
    have := h.lo
    omega

set_option maxRecDepth 100000 in
theorem lput_any (b : Nat) (S : List Nat) (most tot q cc : Int) (ps : List (Int × Int)) (w : World) (h : Low w b S most ps tot) (hc : 0 < cc) (ht : tot + cc ≤ 9223372036854775807) (hq : -9223372036854775808 ≤ q ∧ q ≤ 9223372036854775807) :
    Calls Tryz.prog 95 #[.pointer (some ⟨b, 0, none⟩), .int .i64 q, .int .u64 cc] w fun r w' => r = .returned (.tuple #[]) ∧ LadR b S most ps tot q cc w w' := by
  have H := Lib.hid h
  have HM : Hid (1 ≤ most ∧ most ≤ 4096) := ⟨h.m1, h.most4⟩
  have HO := Lib.hid h.ok
  have HG := Lib.hid h.gd
  have HCT : Hid (0 < cc ∧ tot + cc ≤ 9223372036854775807 ∧ 0 ≤ sumP ps ∧ sumP ps ≤ tot) := ⟨hc, ht, h.sum0, h.lo⟩
  have HQ := Lib.hid hq
  obtain ⟨⟨c, S', rfl, hbn, s1, hS⟩, _⟩ := id h
  have HBN := Lib.hid hbn
  have HS := Lib.hid hS
  have HSA := Lib.hid (fun (p : List (Int × Int)) (W : World) (hW : Strip W c S' most p) => sadd_any c S' most p q cc W hW (Int.le_of_lt hc) (by have := h.lo; have := h.sum0; omega) hq)
  have HR := Lib.hid h.r
  clear hS hbn hc ht hq h
  by_cases h0 : ps = []
  · subst h0
    have HNQ : Hid (¬ (([] : List (Int × Int)).length ≠ 0 ∧ most ≤ gap sd (endP sd []) q)) := fun k => k.1 rfl
    go_enter Tryz.func95, Tryz.ntmps95
    go_wp2_with fail
    refine (lend_any b _ most _ [] w HR.out).mono ?_
    rintro r w1 ⟨rfl, hb⟩
    rw [show endV sd [] = .tuple #[.int .i64 0, .bool false] from rfl]
    have HF := Lib.hid (Frame.of_below hb (S := b :: S'))
    have s2 := s1.below hb
    have HS2 := Lib.hid (HS.out.below hb)
    have f2 := s2.three
    have l2 := s2.lt
    clear s1 HR hb
    go_wp2_with fail
    refine (HSA.out [] w1 HS2.out).mono ?_
    intro r w2 hR
    obtain ⟨rfl, hL⟩ := lput_add H.out HF.out HBN.out s2 HNQ.out HCT.out.1 HCT.out.2.1 hR
    clear hR s2
    go_wp2
    exact bodyPost_end (results_none rfl _ _ _) rfl ⟨rfl, hL⟩
  · have HE := Lib.hid (okP.end' (s := sd) HO.out h0)
    obtain ⟨e, he⟩ : ∃ e, endP sd ps = e := ⟨_, rfl⟩
    have HEE := Lib.hid he
    have HV : Hid (endV sd ps = .tuple #[.int .i64 e, .bool true]) := by show _ = _; unfold endV; rw [if_neg (ne_len.2 h0), he]
    rw [he] at HE
    clear he
    go_enter Tryz.func95, Tryz.ntmps95
    go_wp2_with fail
    refine (lend_any b _ most _ ps w HR.out).mono ?_
    rintro r w1 ⟨rfl, hb⟩
    rw [HV.out]
    have HF := Lib.hid (Frame.of_below hb (S := b :: S'))
    have s2 := s1.below hb
    have HS2 := Lib.hid (HS.out.below hb)
    have f2 := s2.three
    have l2 := s2.lt
    clear s1 HR hb
    go_wp2_with fail
    refine (lout_any b (b :: S') most (tot - sumP ps) q e ps w1 ⟨c, S', rfl, HBN.out, s2, HS2.out⟩ HM.out HQ.out HE.out).mono ?_
    rintro r w2 ⟨rfl, rfl⟩
    by_cases hg : most ≤ gap sd e q
    · rw [decide_eq_true hg]
      obtain ⟨lo, hlo⟩ : ∃ lo, tot - sumP ps = lo := ⟨_, rfl⟩
      have hw : IntKind.u64.wrap (lo + cc) = lo + cc := by have := HCT.out; simp only [IntKind.wrap_u64]; omega
      have HL : Hid (LadR b (b :: S') most ps tot q cc w (w1.setCell ⟨b, 2, none⟩ (.int .u64 (lo + cc)))) := by
        refine ⟨b :: S', GrownS.refl _ _, ?_, HF.out.setc (.inl (by simp)) 2 _⟩
        rw [capRow_yes (ne_len.2 h0) (by rw [HEE.out]; exact hg)]
        have e1 : tot + cc - sumP ps = lo + cc := by omega
        refine ⟨?_, H.out.win, HM.out.1, by have := HCT.out; omega, HCT.out.2.1⟩
        rw [e1]
        exact LowR.set (lost := tot - sumP ps) ⟨c, S', rfl, HBN.out, s2, HS2.out⟩
      rw [hlo] at f2
      clear hlo hg s2
      go_wp2
      exact bodyPost_ret (results_none rfl _ _ _) rfl ⟨rfl, HL.out⟩
    · rw [decide_eq_false hg]
      have HNQ : Hid (¬ (ps.length ≠ 0 ∧ most ≤ gap sd (endP sd ps) q)) := fun k => hg (by rw [← HEE.out]; exact k.2)
      by_cases hlt : e < q
      · clear hg
        go_wp2_with fail
        refine (lshed_any b c S' most tot q ps w1 HBN.out s2 HS2.out HM.out HQ.out HCT.out.2.2.2 (by have := HCT.out; omega)).mono ?_
        rintro r w3 ⟨rfl, s3, hS3, hF3⟩
        have HF3 := Lib.hid (HF.out.trans hF3)
        have HS3 := Lib.hid hS3
        have f3 := s3.three
        have l3 := s3.lt
        clear s2 f2 l2 hS3 hF3
        go_wp2_with fail
        refine (HSA.out _ w3 HS3.out).mono ?_
        intro r w2 hR
        obtain ⟨rfl, hL⟩ := lput_add H.out HF3.out HBN.out s3 HNQ.out HCT.out.1 HCT.out.2.1 hR
        clear hR s3
        go_wp2
        exact bodyPost_end (results_none rfl _ _ _) rfl ⟨rfl, hL⟩
      · have HN : Hid (near sd most q ps = ps) := near_self HG.out H.out.win (by rw [HEE.out]; show 0 ≤ e - q; omega)
        clear hg
        go_wp2_with fail
        refine (HSA.out ps w1 HS2.out).mono ?_
        intro r w2 hR
        obtain ⟨rfl, hL⟩ := lput_add H.out HF.out HBN.out (by rw [HN.out]; exact s2) HNQ.out HCT.out.1 HCT.out.2.1 (by rw [HN.out]; exact hR)
        clear hR s2
        go_wp2
        exact bodyPost_end (results_none rfl _ _ _) rfl ⟨rfl, hL⟩

theorem ladd_zero (b : Nat) (q : Int) (w : World) : Calls Tryz.prog 151 #[.pointer (some ⟨b, 0, none⟩), .int .i64 q, .int .u64 0] w fun e w' => e = .returned (.int .i64 1) ∧ w = w' := by
  go_enter Tryz.func151, Tryz.ntmps151
  go_wp2
  go_ret
  exact ⟨rfl, rfl⟩
theorem ladd_full (b : Nat) (S : List Nat) (most tot q cc : Int) (ps : List (Int × Int)) (w : World) (h : Low w b S most ps tot) (hc : 0 < cc) (hc' : cc < 18446744073709551616) (ht : 9223372036854775807 < tot + cc) :
    Calls Tryz.prog 151 #[.pointer (some ⟨b, 0, none⟩), .int .i64 q, .int .u64 cc] w fun e w' => e = .returned (.int .i64 6) ∧ Below w.heap.size w w' := by
  have HT := Lib.hid (ltotal_any b S most tot ps w h)
  have H0 : Hid (0 < cc ∧ cc < 18446744073709551616 ∧ 0 ≤ tot ∧ tot ≤ 9223372036854775807) := ⟨hc, hc', by have := h.sum0; have := h.lo; omega, h.hi⟩
  have hcc : (cc == 0) = false := beq_eq_false_iff_ne.2 (by omega)
  obtain ⟨p1, p2⟩ := plus2_no (a := tot) (b := cc) (by omega)
  have HP := Lib.hid (And.intro p1 p2)
  clear h hc hc' ht p1 p2
  go_enter Tryz.func151, Tryz.ntmps151
  go_wp2_with fail
  refine HT.out.mono ?_
  rintro e w1 ⟨rfl, hb⟩
  go_wp2_with fail
  have a1 := At.new w1 #[.int .u64 tot, .int .u64 cc] 22
  refine (plus2_any w1.heap.size tot cc _ (by have := H0.out; omega) (by have := H0.out; omega) (by have := H0.out; omega) (by have := H0.out; omega) (a1.cell rfl) (a1.cell rfl)).mono ?_
  rintro e w2 ⟨rfl, rfl⟩
  have z1 := hb.size
  rw [HP.out.1, HP.out.2]
  clear a1
  go_wp2
  go_ret
  exact ⟨rfl, (by repeat (first | with_reducible assumption | with_reducible exact Below.refl _ _ | with_reducible refine Below.drew ?_ | with_reducible refine Below.drewN ?_ _ | with_reducible refine Below.setCell ?_ (by first | omega | (simp; done) | (simp; omega)) _ | with_reducible refine Below.alloc ?_ (by first | omega | (simp; done) | (simp; omega) | (simp [World.setCell]; omega)) _))⟩
theorem ladd_any (b : Nat) (S : List Nat) (most tot q cc : Int) (ps : List (Int × Int)) (w : World) (h : Low w b S most ps tot) (hc : 0 < cc) (ht : tot + cc ≤ 9223372036854775807) (hq : -9223372036854775808 ≤ q ∧ q ≤ 9223372036854775807) :
    Calls Tryz.prog 151 #[.pointer (some ⟨b, 0, none⟩), .int .i64 q, .int .u64 cc] w fun e w' => e = .returned (.int .i64 0) ∧ LadR b S most ps tot q cc w w' := by
  have HT := Lib.hid (ltotal_any b S most tot ps w h)
  have H0 : Hid (0 < cc ∧ cc < 18446744073709551616 ∧ 0 ≤ tot ∧ tot ≤ 9223372036854775807) := ⟨hc, by have := h.sum0; have := h.lo; omega, by have := h.sum0; have := h.lo; omega, h.hi⟩
  have hcc : (cc == 0) = false := beq_eq_false_iff_ne.2 (by omega)
  obtain ⟨p1, p2⟩ := plus2_yes (a := tot) (b := cc) (by omega)
  have HP := Lib.hid (And.intro p1 p2)
  have HPUT := Lib.hid (fun (W : World) (hb : Below w.heap.size w W) => lput_any b S most tot q cc ps W (h.below hb) hc ht hq)
  clear h hc ht hq p1 p2
  go_enter Tryz.func151, Tryz.ntmps151
  go_wp2_with fail
  refine HT.out.mono ?_
  rintro e w1 ⟨rfl, hb⟩
  go_wp2_with fail
  have a1 := At.new w1 #[.int .u64 tot, .int .u64 cc] 22
  refine (plus2_any w1.heap.size tot cc _ (by have := H0.out; omega) (by have := H0.out; omega) (by have := H0.out; omega) (by have := H0.out; omega) (a1.cell rfl) (a1.cell rfl)).mono ?_
  rintro e w2 ⟨rfl, rfl⟩
  have z1 := hb.size
  rw [HP.out.1, HP.out.2]
  have hB2 : Below w.heap.size w (w1.alloc (.cells #[.int .u64 tot, .int .u64 cc] 22)) := (by repeat (first | with_reducible assumption | with_reducible exact Below.refl _ _ | with_reducible refine Below.drew ?_ | with_reducible refine Below.drewN ?_ _ | with_reducible refine Below.setCell ?_ (by first | omega | (simp; done) | (simp; omega)) _ | with_reducible refine Below.alloc ?_ (by first | omega | (simp; done) | (simp; omega) | (simp [World.setCell]; omega)) _))
  have HB := Lib.hid hB2
  clear a1 hb hB2
  go_wp2_with fail
  refine (HPUT.out _ HB.out).mono ?_
  rintro e w3 ⟨rfl, S', hg, hL, hF⟩
  have HL : Hid (LadR b S most ps tot q cc w w3) := ⟨S', fun k hk => (hg k hk).imp id (fun h => Nat.le_trans HB.out.size h), hL, (Frame.of_below HB.out).trans hF⟩
  clear hg hL hF
  go_wp2
  go_ret
  exact ⟨rfl, HL.out⟩
theorem lnil_add (q cc : Int) (w : World) : Calls Tryz.prog 151 #[.pointer none, .int .i64 q, .int .u64 cc] w fun e w' => e = .returned (.int .i64 2) ∧ w = w' := by
  go_enter Tryz.func151, Tryz.ntmps151
  go_wp2
  go_ret
  exact ⟨rfl, rfl⟩
end Go.Proofs.YtondkkhagbcadaaGreat.Lo
/- Contracts of package lowcap: Merge; a nil one. -/
namespace Go.Proofs.YtondkkhagbcadaaGreat.Lo
open Go.RowKit

theorem sumP_take_le {ps : List (Int × Int)} (h : ∀ x ∈ ps, 0 < x.2) (k : Nat) : 0 ≤ sumP (ps.take k) ∧ sumP (ps.take k) ≤ sumP ps := by
  have e := congrArg sumP (List.take_append_drop k ps)
  rw [sumP_append] at e
  have h1 := sumP_nonneg (ps := ps.take k) fun x hx => h x (List.mem_of_mem_take hx)
  have h2 := sumP_nonneg (ps := ps.drop k) fun x hx => h x (List.mem_of_mem_drop hx)
  omega

/-- A round of Merge: S0 what it was that was the first one's own, n from where on it may have grown. -/
structure Mer (w wr : World) (b : Nat) (S S' : List Nat) (n : Nat) (most tot : Int) (ps : List (Int × Int)) (A : Option Addr) (qs : List (Int × Int)) : Prop where
  low : Low wr b S' most ps tot
  gr : GrownS S S' n
  fr : Frame S w wr
  rd : RdP wr A qs
  ap : ∀ k ∈ blk A, k ∉ S'
theorem Mer.step {w wr w' : World} {b : Nat} {S S' : List Nat} {n : Nat} {most tot q cc : Int} {ps : List (Int × Int)} {A : Option Addr} {qs : List (Int × Int)} (h : Mer w wr b S S' n most tot ps A qs) (hn : n ≤ wr.heap.size) (hw : w.heap.size ≤ n) (hA : ∀ k ∈ blk A, k < wr.heap.size)
    (hL : LadR b S' most ps tot q cc wr w') : ∃ S2, Mer w w' b S S2 n most (tot + cc) (capRow sd most ps q cc) A qs := by
  obtain ⟨S2, g2, hl, hF⟩ := hL
  have hg : GrownS S S2 n := fun k hk => by
    rcases g2 k hk with h1 | h1
    · exact h.gr k h1
    · exact .inr (Nat.le_trans hn h1)
  refine ⟨S2, hl, hg, ⟨hF.os.trans h.fr.os, hF.tape.trans h.fr.tape, hF.output.trans h.fr.output, Nat.le_trans h.fr.size hF.size, fun k hk hkS => ?_⟩, ?_, ?_⟩
  · refine (hF.block k (Nat.lt_of_lt_of_le hk h.fr.size) fun hk' => ?_).trans (h.fr.block k hk hkS)
    rcases h.gr k hk' with h1 | h1
    · exact hkS h1
    · omega
  · refine Frame.rd hF h.rd fun a e => ?_
    exact h.ap _ (by subst e; simp [blk])
  · intro k hk hk'
    rcases g2 k hk' with h1 | h1
    · exact h.ap k hk h1
    · have := hA k hk; omega

theorem capAll_sum_nil (most : Int) (ps : List (Int × Int)) : capAll sd most ps [] = ps := rfl

set_option maxRecDepth 100000 in
set_option maxHeartbeats 1000000 in
theorem lmerge_any (b o : Nat) (S So : List Nat) (most T U : Int) (ps qs : List (Int × Int)) (w : World) (h : Low w b S most ps T) (k : Low w o So most qs U) (hT : T + U ≤ 9223372036854775807) :
    Calls Tryz.prog 84 #[.pointer (some ⟨b, 0, none⟩), .pointer (some ⟨o, 0, none⟩)] w fun e w' => e = .returned (.int .i64 0) ∧ ∃ S', GrownS S S' w.heap.size ∧ Low w' b S' most (capAll sd most ps qs) (T + U) ∧ Frame S w w' := by
  have H := Lib.hid h
  have K := Lib.hid k
  have HT := Lib.hid (And.intro hT (And.intro h.sum0 (And.intro h.lo (And.intro k.sum0 k.lo))))
  have HOK := Lib.hid k.ok
  have HGQ := Lib.hid k.gd
  have HLN := Lib.hid k.len
  obtain ⟨n, hn⟩ : ∃ n, qs.length = n := ⟨_, rfl⟩
  have HN := Lib.hid hn
  have hlen : n ≤ 4096 := by rw [← hn]; exact k.len.2
  obtain ⟨⟨c, S', _, _, s1, _⟩, _⟩ := id h
  obtain ⟨⟨c2, S2', _, _, t1, _⟩, _⟩ := id k
  have f1 := s1.three
  have g1 := t1.three
  obtain ⟨p1, p2⟩ := plus2_yes (a := T) (b := U) hT
  have HP := Lib.hid (And.intro p1 p2)
  have hU : 0 ≤ U - sumP qs := by have := k.lo; omega
  clear h k hT p1 p2 hn
  go_enter Tryz.func84, Tryz.ntmps84
  go_wp2
  go_quiet (fail)
  have hb0 : Below w.heap.size w (w.drewN nq) := (Below.refl _ _).drewN _
  go_wp2_with fail
  refine (ltotal_any b S most T ps _ (H.out.below hb0)).mono ?_
  rintro e w1 ⟨rfl, hb⟩
  have hb1 := keep1 hb0 hb
  have z1 := hb1.size
  clear hb hb0
  go_wp2_with fail
  refine (ltotal_any o So most U qs _ (K.out.below hb1)).mono ?_
  rintro e w2 ⟨rfl, hb⟩
  have hb2 := keep1 hb1 hb
  have z2 := hb2.size
  clear hb hb1 z1
  go_wp2_with fail
  have a1 := At.new w2 #[.int .u64 T, .int .u64 U] 22
  refine (plus2_any w2.heap.size T U _ (by have := HT.out; omega) (by have := HT.out; omega) (by have := HT.out; omega) (by have := HT.out; omega) (a1.cell rfl) (a1.cell rfl)).mono ?_
  rintro e w3 ⟨rfl, rfl⟩
  rw [HP.out.1, HP.out.2]
  have hb3 : Below w.heap.size w (w2.alloc (.cells #[.int .u64 T, .int .u64 U] 22)) := (by repeat (first | with_reducible assumption | with_reducible exact Below.refl _ _ | with_reducible refine Below.drew ?_ | with_reducible refine Below.drewN ?_ _ | with_reducible refine Below.setCell ?_ (by first | omega | (simp; done) | (simp; omega)) _ | with_reducible refine Below.alloc ?_ (by first | omega | (simp; done) | (simp; omega) | (simp [World.setCell]; omega)) _))
  have t3 := t1.below hb3
  obtain ⟨W3, hW3⟩ : ∃ W3, w2.alloc (.cells #[.int .u64 T, .int .u64 U] 22) = W3 := ⟨_, rfl⟩
  rw [hW3] at hb3 t3 ⊢
  have g3 := t3.three
  have l3 := t3.lt
  clear a1 hW3 hb2 z2 f1 g1 t1 s1
  go_wp2_with fail
  obtain ⟨⟨c3, S3', _, _, t4, hS4⟩, _⟩ := K.out.below hb3
  have e3 := t4.symm.trans t3
  simp only [Option.some.injEq, Obj.cells.injEq] at e3
  have e4 := e3.1
  simp at e4
  subst e4
  refine (spairs_any _ S3' most qs _ hS4).mono ?_
  rintro e w5 ⟨A, cap, rfl, ho, hb⟩
  rw [HN.out]
  have hb5 := keep1 hb3 hb
  have z5 := hb5.size
  have HA : Hid (∀ k ∈ blk A, w.heap.size ≤ k ∧ k < w5.heap.size) := fun k hk => by
    cases A with
    | none => simp [blk] at hk
    | some a => simp only [blk, List.mem_singleton] at hk; subst hk; have := ho.base_le a rfl; have := hb3.size; omega
  have HM : Hid (Mer w w5 b S S w5.heap.size most T ps A qs) := ⟨H.out.below hb5, GrownS.refl _ _, Frame.of_below hb5, ho.rd, fun k hk hk' => by have := (HA.out k hk).1; have := H.out.lt k hk'; omega⟩
  obtain ⟨B5, hB5⟩ : ∃ B5, w5.heap.size = B5 := ⟨_, rfl⟩
  have HZ : Hid (w.heap.size ≤ B5 ∧ B5 ≤ w5.heap.size) := by show _ ∧ _; omega
  rw [hB5] at HM HA
  clear hb ho hb3 g3 t3 l3 hS4 t4 e3 hb5 z5 hB5
  go_wp2
  go_loopw [9, 48] (fun _ i wr => ∃ j : Nat, ∃ S2, j ≤ n ∧ i = .int .i64 j ∧ Hid (Mer w wr b S S2 B5 most (T + sumP (qs.take j)) (capAll sd most ps (qs.take j)) A qs ∧ B5 ≤ wr.heap.size)) (fun _ i _ => n - (intOf i).toNat)
  case atStart => exact ⟨0, S, by omega, rfl, by rw [List.take_zero, sumP_nil, Int.add_zero]; exact ⟨HM.out, HZ.out.2⟩⟩
  case round =>
    obtain ⟨j, S2, hj, rfl, HJ⟩ := hrel
    clear HM
    by_cases hjt : j < n
    · obtain ⟨g, o', rfl, hg, c1, c2'⟩ := RdP.at HJ.out.1.rd j (by have := HN.out; omega)
      obtain ⟨⟨b1, b2⟩, b3, b4⟩ := HOK.out.at j (by have := HN.out; omega)
      have HS := Lib.hid (sumP_take qs j (by have := HN.out; omega))
      have HC := Lib.hid (capAll_take (s := sd) (most := most) ps qs j (by have := HN.out; omega))
      have HX := Lib.hid (HGQ.out.pos _ (List.getElem_mem (show j < qs.length by have := HN.out; omega)))
      have HL := Lib.hid (sumP_take_le HGQ.out.pos (j + 1))
      obtain ⟨⟨x, y⟩, hx⟩ : ∃ x, qs[j]'(by have := HN.out; omega) = x := ⟨_, rfl⟩
      rw [hx] at c1 c2' b1 b2 b3 b4 HS HC HX
      clear hx
      dsimp only at c1 c2' b1 b2 b3 b4 HS HC HX
      have zJ := HJ.out.2
      have hbp : Below wr.heap.size wr (wr.alloc (.cells #[.int .i64 x, .int .u64 y] 106)) := (Below.refl _ _).alloc (Nat.le_refl _) _
      have HJ2 : Hid (Mer w (wr.alloc (.cells #[.int .i64 x, .int .u64 y] 106)) b S S2 B5 most (T + sumP (qs.take j)) (capAll sd most ps (qs.take j)) (some ⟨g, o', none⟩) qs) :=
        ⟨HJ.out.1.low.below hbp, HJ.out.1.gr, HJ.out.1.fr.trans (Frame.of_below hbp), HJ.out.1.rd.below hbp, HJ.out.1.ap⟩
      clear HJ
      go_wp2_with fail
      refine (lput_any b S2 most _ x y _ _ HJ2.out.low HX.out (by have := HS.out; have := HL.out; have := HT.out; omega) ⟨b1, b2⟩).mono ?_
      rintro e w6 ⟨rfl, hL⟩
      have z6 : B5 ≤ w6.heap.size := by obtain ⟨_, _, _, hF⟩ := hL; have := hF.size; have := hbp.size; omega
      obtain ⟨S3, H3⟩ := HJ2.out.step (by have := hbp.size; omega) HZ.out.1 (fun k hk => by have := (HA.out k hk).2; have := hbp.size; omega) hL
      rw [← HC.out, Int.add_assoc, ← HS.out] at H3
      have H3' := Lib.hid (And.intro H3 z6)
      clear hL H3 z6 HJ2 hbp zJ
      go_wp2
      go_roundw
      case rel => exact ⟨j + 1, S3, by omega, by simp, H3'⟩
      case measure => simp [intOf]; omega
    · obtain rfl : j = n := by omega
      have H1 := HJ.out.1
      rw [List.take_of_length_le (by have := HN.out; omega)] at H1
      have HL := Lib.hid H1
      have hs0 := H1.low.sum0
      have hlo := H1.low.lo
      have hhi := H1.low.hi
      obtain ⟨⟨c4, S4', rfl, hn4, t4, hS4⟩, hwin, hm1, _, _⟩ := H1.low
      obtain ⟨lo, hlo'⟩ : ∃ lo, T + sumP qs - sumP (capAll sd most ps qs) = lo := ⟨_, rfl⟩
      obtain ⟨uo, huo⟩ : ∃ uo, U - sumP qs = uo := ⟨_, rfl⟩
      have hw : IntKind.u64.wrap (lo + uo) = lo + uo := by have := HT.out; simp only [IntKind.wrap_u64]; omega
      have HR : Hid (Low (wr.setCell ⟨b, 2, none⟩ (.int .u64 (lo + uo))) b (b :: S4') most (capAll sd most ps qs) (T + U)) := by
        refine ⟨?_, hwin, hm1, by omega, HT.out.1⟩
        rw [show T + U - sumP (capAll sd most ps qs) = lo + uo by omega]
        exact LowR.set (lost := _) ⟨c4, S4', rfl, hn4, t4, hS4⟩
      have HF : Hid (Frame S w (wr.setCell ⟨b, 2, none⟩ (.int .u64 (lo + uo)))) := HL.out.fr.setc (.inl H.out.r.mem) 2 _
      have HGR : Hid (GrownS S (b :: S4') w.heap.size) := fun k hk => (HL.out.gr k hk).imp id fun h => Nat.le_trans HZ.out.1 h
      rw [hlo'] at t4
      rw [huo]
      have f4 := t4.three
      have l4 := t4.lt
      clear HL HJ H1 hwin t4 hS4 hs0 hlo hhi hlo' huo
      go_wp2
      go_ret
      exact ⟨rfl, _, HGR.out, HR.out, HF.out⟩

set_option maxRecDepth 100000 in
theorem lmerge_match (b o : Nat) (S So : List Nat) (most most' T U : Int) (ps qs : List (Int × Int)) (w : World) (h : Low w b S most ps T) (k : Low w o So most' qs U) (hne : most ≠ most') :
    Calls Tryz.prog 84 #[.pointer (some ⟨b, 0, none⟩), .pointer (some ⟨o, 0, none⟩)] w fun e w' => e = .returned (.int .i64 8) ∧ Below w.heap.size w w' := by
  obtain ⟨⟨c, S', _, _, s1, _⟩, _⟩ := h
  obtain ⟨⟨c2, S2', _, _, t1, _⟩, _⟩ := k
  have f1 := s1.three
  have g1 := t1.three
  have n1 : (most == most') = false := beq_eq_false_iff_ne.2 hne
  go_enter Tryz.func84, Tryz.ntmps84
  go_wp2
  go_quiet (fail)
  go_wp2
  go_ret
  exact ⟨rfl, (Below.refl _ _).drewN _⟩
theorem lmerge_nil (b : Nat) (w : World) :
    Calls Tryz.prog 84 #[.pointer (some ⟨b, 0, none⟩), .pointer none] w fun e w' => e = .returned (.int .i64 2) ∧ w = w' := by
  go_enter Tryz.func84, Tryz.ntmps84
  go_wp2
  go_ret
  exact ⟨rfl, rfl⟩
theorem lnil_merge (w : World) :
    Calls Tryz.prog 84 #[.pointer none, .pointer none] w fun e w' => e = .returned (.int .i64 2) ∧ w = w' := by
  go_enter Tryz.func84, Tryz.ntmps84
  go_wp2
  go_ret
  exact ⟨rfl, rfl⟩
end Go.Proofs.YtondkkhagbcadaaGreat.Lo
/- Contracts of package lowcap: Find, Below; a nil one. -/
namespace Go.Proofs.YtondkkhagbcadaaGreat.Lo
open Go.RowKit

/-- Where the t-th one lies: the lost ones lie ahead. -/
def lowFind (lo : Int) (ps : List (Int × Int)) (t : Int) : Option Int := if t ≤ lo then none else findP (t - lo) 0 ps
set_option maxRecDepth 100000 in
theorem lfind_any (b : Nat) (S : List Nat) (most tot t : Int) (ps : List (Int × Int)) (w : World) (h : Low w b S most ps tot) (ht : 0 ≤ t ∧ t < 18446744073709551616) :
    Calls Tryz.prog 153 #[.pointer (some ⟨b, 0, none⟩), .int .u64 t] w fun e w' => e = .returned (optI (lowFind (tot - sumP ps) ps t)) ∧ Below w.heap.size w w' := by
  have hlo0 : 0 ≤ tot - sumP ps := by have := h.lo; omega
  obtain ⟨⟨c, S', _, _, s1, hS⟩, _⟩ := h
  have HS := Lib.hid hS
  obtain ⟨lo, hlo⟩ : ∃ lo, tot - sumP ps = lo := ⟨_, rfl⟩
  rw [hlo] at s1 hlo0 ⊢
  have f1 := s1.three
  clear hS hlo
  by_cases hle : t ≤ lo
  · have HV : Hid (optI (lowFind lo ps t) = .tuple #[.int .i64 0, .bool false]) := by show _ = _; unfold lowFind; rw [if_pos hle]; rfl
    go_enter Tryz.func153, Tryz.ntmps153
    go_wp2
    go_ret2
    exact ⟨by rw [HV.out]; rfl, Below.refl _ _⟩
  · have hw : IntKind.u64.wrap (t - lo) = t - lo := by simp only [IntKind.wrap_u64]; omega
    have HC := Lib.hid (sfind_any c S' most ps (t - lo))
    have HT : Hid (0 ≤ t - lo ∧ t - lo < 18446744073709551616) := ⟨by omega, by omega⟩
    obtain ⟨fi, hfi⟩ : ∃ fi, (findP (t - lo) 0 ps).getD 0 = fi := ⟨_, rfl⟩
    obtain ⟨fb, hfb⟩ : ∃ fb, (findP (t - lo) 0 ps).isSome = fb := ⟨_, rfl⟩
    have HOP : Hid (optI (findP (t - lo) 0 ps) = .tuple #[.int .i64 fi, .bool fb]) := by show _ = _; unfold optI; rw [hfi, hfb]
    have HV : Hid (optI (lowFind lo ps t) = .tuple #[.int .i64 fi, .bool fb]) := by show _ = _; unfold lowFind; rw [if_neg hle, HOP.out]
    clear hfi hfb ht
    go_enter Tryz.func153, Tryz.ntmps153
    go_wp2
    have hfar1 := fun x : Far w => (x.at s1).three
    refine wp_region_far (by kernel_rfl) (by kernel_rfl) ?_
    repeat (first | go_big_quiet_skip | (go_big_quiet_want; go_big_quiet_op; first | go_big_quiet_on | (apply Exists.intro; refine ⟨fun _ => ?_, ?_⟩; (focus (first | (refine far_of_same ((HC.out _ (HS.out.below (Far.below _)) HT.out).mono fun _ _ h => ⟨h.1.trans (by rw [HOP.out]), h.2.symm⟩)))); go_big_quiet_on)))
    refine wpQuiet_nil ?_
    rintro _ ⟨xq, rfl⟩
    clear hfar1
    go_wp2
    go_ret2
    exact ⟨by rw [HV.out]; rfl, Far.below _⟩
theorem lnil_find (t : Int) (w : World) : Calls Tryz.prog 153 #[.pointer none, .int .u64 t] w fun e w' => e = .returned (.tuple #[.int .i64 0, .bool false]) ∧ w = w' := by
  go_enter Tryz.func153, Tryz.ntmps153
  go_wp2
  go_ret2
  exact ⟨rfl, rfl⟩

/-- At least, and at most. -/
def lowBelow (most lo : Int) (ps : List (Int × Int)) (q : Int) : Int × Int := if ps.length ≠ 0 ∧ most < endP sd ps - q then (0, lo) else (upto ps q + lo, upto ps q + lo)
theorem lnil_total (w : World) : Calls Tryz.prog 93 #[.pointer none] w fun e w' => e = .returned (.int .u64 0) ∧ w = w' := by
  go_enter Tryz.func93, Tryz.ntmps93
  go_wp2
  go_ret
  exact ⟨rfl, rfl⟩
theorem lnil_lost (w : World) : Calls Tryz.prog 154 #[.pointer none] w fun e w' => e = .returned (.int .u64 0) ∧ w = w' := by
  go_enter Tryz.func154, Tryz.ntmps154
  go_wp2
  go_ret
  exact ⟨rfl, rfl⟩
theorem lnil_pairs (w : World) : Calls Tryz.prog 155 #[.pointer none] w fun e w' => e = .returned (.slice none 0 0) ∧ w = w' := by
  go_enter Tryz.func155, Tryz.ntmps155
  go_wp2
  go_ret
  exact ⟨rfl, rfl⟩
end Go.Proofs.YtondkkhagbcadaaGreat.Lo
/- Contract of package lowcap: Load. -/
namespace Go.Proofs.YtondkkhagbcadaaGreat.Lo
open Go.RowKit

theorem addAll_nil {rs : List (Int × Int)} (h : Gd rs) (hs : sumP rs < 18446744073709551616) : addAll [] rs = rs := by
  obtain ⟨a, _, c⟩ := addAll_spec (l := rs) Gd.nil h.pos (by rw [sumP_nil]; omega)
  exact Gd.ext a h fun i => by rw [c, cnt_nil]; omega
theorem capAll_nil {s : Bool} {most : Int} {rs : List (Int × Int)} (hm : 1 ≤ most) (h : Gd rs) (hs : sumP rs < 18446744073709551616) : capAll s most [] rs = keptP s most rs := by
  have := capAll_kept (s := s) hm Gd.nil h.pos (by rw [sumP_nil]; omega)
  rw [addAll_nil h hs] at this
  exact this
theorem filter_sum_eq {p : Int × Int → Bool} : ∀ {rs : List (Int × Int)}, (∀ x ∈ rs, 0 < x.2) → sumP rs ≤ sumP (rs.filter p) → ∀ x ∈ rs, p x = true
  | [], _, _, x, hx => by simp at hx
  | y :: rs, h, hs, x, hx => by
    have h1 := h y (by simp)
    have h2 : ∀ z ∈ rs, 0 < z.2 := fun z hz => h z (by simp [hz])
    have h3 := (sumP_filter_le h2 p).2
    rw [sumP_cons, List.filter_cons] at hs
    by_cases hy : p y = true
    · rw [if_pos hy, sumP_cons] at hs
      rcases List.mem_cons.1 hx with rfl | hx
      · exact hy
      · exact filter_sum_eq h2 (by omega) x hx
    · rw [if_neg hy] at hs
      omega
theorem win_of_sum {s : Bool} {most : Int} {rs : List (Int × Int)} (h : Gd rs) (hs : sumP rs ≤ sumP (keptP s most rs)) : Win s most rs := fun x hx =>
  of_decide_eq_true (filter_sum_eq (p := fun x => decide (gap s (endP s rs) x.1 < most)) h.pos hs x hx)

/-- Can it be loaded? -/
structure LoadOk (most : Int) (rs : List (Int × Int)) (lost : Int) : Prop where
  gm : GdM rs
  ln : (rs.length : Int) ≤ most
  sm : sumP rs + lost ≤ 9223372036854775807
  win : Win sd most rs
  em : rs = [] → lost = 0
/-- What Load answers. -/
def LoadR (most : Int) (rs : List (Int × Int)) (lost : Int) (w : World) (e : Ending) (w' : World) : Prop :=
  (LoadOk most rs lost ∧ ∃ b S, e = .returned (.tuple #[.pointer (some ⟨b, 0, none⟩), .int .i64 0]) ∧ Within S w.heap.size w'.heap.size ∧ Low w' b S most rs (sumP rs + lost)) ∨
  (¬ LoadOk most rs lost ∧ e = .returned (.tuple #[.pointer none, .int .i64 1]))
theorem LoadR.bad {most : Int} {rs : List (Int × Int)} {lost : Int} {w w' : World} (h : ¬ LoadOk most rs lost) : LoadR most rs lost w (.returned (.tuple #[.pointer none, .int .i64 1])) w' := .inr ⟨h, rfl⟩

end Go.Proofs.YtondkkhagbcadaaGreat.Lo
/- Contracts of the document's lowcap. -/
namespace Go.Proofs.YtondkkhagbcadaaGreat.Lo
open Go.RowKit

structure DocB (w : World) (m : Nat) (A : Option Addr) (c : Nat) (most : Int) (ps : List (Int × Int)) : Prop where
  at' : At w m #[.int .i64 most, .slice A ps.length c] 131
  own : Own2 0 w A c ps
  ne : m ∉ blk A
/-- The document's, and the blocks that are its own. -/
def DocL (w : World) (m : Nat) (S : List Nat) (most : Int) (ps : List (Int × Int)) : Prop := ∃ A c, S = m :: blk A ∧ DocB w m A c most ps
section
variable {w w' : World} {b : Nat} {S T : List Nat} {most : Int} {ps : List (Int × Int)}
theorem DocL.frame (h : DocL w b S most ps) (hf : Frame T w w') (hn : Apart S T) : DocL w' b S most ps := by
  obtain ⟨A, c, rfl, h⟩ := h
  exact ⟨A, c, rfl, hf.at h.at' (hn b (by simp)), h.own.frame hf (fun k hk => hn k (by simp [hk])), h.ne⟩
theorem DocL.below (h : DocL w b S most ps) (hb : Below w.heap.size w w') : DocL w' b S most ps := h.frame (T := []) (Frame.of_below hb) (fun _ _ => by simp)
theorem DocL.lt (h : DocL w b S most ps) : ∀ k ∈ S, k < w.heap.size := by
  obtain ⟨A, c, rfl, h⟩ := h
  intro k hk
  rcases List.mem_cons.1 hk with rfl | hk
  · exact h.at'.lt
  · cases A with
    | none => simp [blk] at hk
    | some a => simp only [blk, List.mem_singleton] at hk; subst hk; exact (h.own.base_le a rfl).2
end

/-- The document's, as it is read. -/
structure DocC (w : World) (m : Nat) (A : Option Addr) (c : Nat) (most : Int) (ps : List (Int × Int)) : Prop where
  at' : At w m #[.int .i64 most, .slice A ps.length c] 131
  rd : RdP w A ps
def DocD (w : World) (m : Nat) (most : Int) (ps : List (Int × Int)) : Prop := ∃ A c, DocC w m A c most ps
theorem DocD.below {w w' : World} {m : Nat} {most : Int} {ps : List (Int × Int)} (h : DocD w m most ps) (hb : Below w.heap.size w w') : DocD w' m most ps := by
  obtain ⟨A, c, h⟩ := h
  exact ⟨A, c, h.at'.below hb, h.rd.below hb⟩
theorem DocL.d {w : World} {m : Nat} {S : List Nat} {most : Int} {ps : List (Int × Int)} (h : DocL w m S most ps) : DocD w m most ps := by
  obtain ⟨A, c, _, h⟩ := h
  exact ⟨A, c, h.at', h.own.rd⟩
set_option maxRecDepth 100000 in
theorem dlend_d (m : Nat) (most : Int) (ps : List (Int × Int)) (w : World) (h : DocD w m most ps) (h0 : ps ≠ []) (hln : ps.length ≤ 1048576) :
    Calls Tryz.prog 92 #[.pointer (some ⟨m, 0, none⟩)] w fun e w' => e = .returned (.int .i64 (endP sd ps)) ∧ Below w.heap.size w w' := by
  obtain ⟨A, c, h⟩ := h
  have f1 := h.at'.two
  have hlp := List.length_pos_iff.2 h0
  obtain ⟨g, o, rfl, hg, hc1, hc2⟩ := h.rd.at' (ps.length - 1) (by omega)
  obtain ⟨n, hn⟩ : ∃ n, ps.length = n := ⟨_, rfl⟩
  have HV : Hid (endP sd ps = (ps.getD (n - 1) (0, 0)).1) := by show _ = _; rw [← hn]; rfl
  rw [hn] at f1 hln hlp hc1
  obtain ⟨y, hy⟩ : ∃ y, (ps.getD (n - 1) (0, 0)).1 = y := ⟨_, rfl⟩
  rw [hy] at HV hc1
  obtain ⟨k, rfl⟩ : ∃ k, n = k + 1 := ⟨n - 1, by omega⟩
  have v1 : IntKind.i64.wrap (((k + 1 : Nat) : Int) - 1) = k := by simp only [IntKind.wrap_i64]; omega
  rw [Nat.add_sub_cancel] at hc1
  have k0 : (0 : Int) ≤ k := by omega
  have k1 : (k : Int) < ((k + 1 : Nat) : Int) := by omega
  clear hy hn h hc2 h0
  go_enter Tryz.func92, Tryz.ntmps92
  go_wp2
  go_quiet (fail)
  go_wp2
  go_ret
  exact ⟨by rw [HV.out]; rfl, (Below.refl _ _).drewN _⟩

theorem dlkeeps_d (m : Nat) (most q : Int) (ps : List (Int × Int)) (w : World) (h : DocD w m most ps) (h0 : ps ≠ []) (hln : ps.length ≤ 1048576) (hok : okP ps) (hm : 1 ≤ most ∧ most ≤ 4096)
    (hq : -9223372036854775808 ≤ q ∧ q ≤ 9223372036854775807) (hg : 0 ≤ gap sd (endP sd ps) q) :
    Calls Tryz.prog 83 #[.pointer (some ⟨m, 0, none⟩), .int .i64 q] w fun e w' => e = .returned (.bool (decide (gap sd (endP sd ps) q < most))) ∧ Below w.heap.size w w' := by
  have HC := Lib.hid (fun (W : World) (hb : Below w.heap.size w W) => dlend_d m most ps W (h.below hb) h0 hln)
  have he := hok.end' (s := sd) h0
  obtain ⟨A, c, hB⟩ := h
  have s1 := hB.at'
  have l1 := s1.lt
  obtain ⟨e, hee⟩ : ∃ e, endP sd ps = e := ⟨_, rfl⟩
  rw [hee] at HC he hg ⊢
  obtain ⟨x, hx⟩ : ∃ x, IntKind.u64.wrap e = x := ⟨_, rfl⟩
  obtain ⟨y, hy⟩ : ∃ y, IntKind.u64.wrap q = y := ⟨_, rfl⟩
  have hm' : IntKind.u64.wrap most = most := by simp only [IntKind.wrap_u64]; omega
  have hg' : gap sd e q = e - q := rfl
  rw [hg'] at hg ⊢
  have hd : IntKind.u64.wrap (x - y) = e - q := by subst hx hy; simp only [IntKind.wrap_u64]; omega
  clear hB hee h0 hln hok hm hq he hg hg'
  go_enter Tryz.func83, Tryz.ntmps83
  go_wp2
  have hfar1 := fun x : Far w => (x.at s1).two
  refine wp_region_far (by kernel_rfl) (by kernel_rfl) ?_
  repeat (first | go_big_quiet_skip | (go_big_quiet_want; go_big_quiet_op; first | go_big_quiet_on | (apply Exists.intro; refine ⟨fun _ => ?_, ?_⟩; (focus (first | (refine far_of (HC.out _ (Far.below _))))); go_big_quiet_on)))
  refine wpQuiet_nil ?_
  rintro _ ⟨xq, rfl⟩
  clear hfar1
  go_wp2
  go_ret
  exact ⟨rfl, Far.below _⟩

theorem keptP_take (s : Bool) (most e : Int) (ps : List (Int × Int)) (k : Nat) (hk : k < ps.length) : near s most e (ps.take (k + 1)) = near s most e (ps.take k) ++ (if gap s e (ps[k]'hk).1 < most then [ps[k]'hk] else []) := by
  unfold near
  rw [filter_take ps _ k hk]
  simp only [decide_eq_true_eq]
theorem kept_near (s : Bool) (most : Int) (ps : List (Int × Int)) : near s most (endP s ps) ps = keptP s most ps := rfl

set_option maxHeartbeats 1000000 in
theorem dlkept_d (m : Nat) (most : Int) (ps : List (Int × Int)) (w : World) (h : DocD w m most ps) (hln : ps.length ≤ 1048576) (hgd : Gd ps) (hok : okP ps) (hm : 1 ≤ most ∧ most ≤ 4096) :
    Calls Tryz.prog 64 #[.pointer (some ⟨m, 0, none⟩)] w fun e w' => CloR (keptP sd most ps) w e w' := by
  have HK := Lib.hid (fun (W : World) (hb : Below w.heap.size w W) (j : Nat) (hj : j < ps.length) =>
    dlkeeps_d m most (ps[j]'hj).1 ps W (h.below hb) (List.ne_nil_of_mem (List.getElem_mem hj)) hln hok hm (hok _ (List.getElem_mem hj)).1 (endP_gap hgd _ (List.getElem_mem hj)))
  obtain ⟨e, hee⟩ : ∃ e, endP sd ps = e := ⟨_, rfl⟩
  have HE : Hid (near sd most e ps = keptP sd most ps) := by show _ = _; rw [← hee]; rfl
  obtain ⟨A, c, hB⟩ := h
  have f1 := hB.at'.two
  have HR := Lib.hid hB.rd
  obtain ⟨len, hlen⟩ : ∃ len, ps.length = len := ⟨_, rfl⟩
  have HLN := Lib.hid hlen
  rw [hlen] at f1 hln
  rw [hee] at HK
  clear hB hgd hok hm hee hlen
  go_enter Tryz.func64, Tryz.ntmps64
  go_wp2
  go_loopw [3, 5, 11] (fun o _ i wr => ∃ k n : Nat, ∃ A' cap', k ≤ len ∧ n ≤ k ∧ i = .int .i64 k ∧ o = .slice A' n cap' ∧ Hid ((near sd most e (ps.take k)).length = n) ∧ Hid (Own2 w.heap.size wr A' cap' (near sd most e (ps.take k))) ∧ Below w.heap.size w wr) (fun _ _ i _ => len - (intOf i).toNat)
  case atStart => exact ⟨0, 0, none, 0, by omega, by omega, rfl, rfl, rfl, Own2.nil _ _, Below.refl _ _⟩
  case round =>
    obtain ⟨k, n, A', cap', hk, hn, rfl, rfl, HN, HW, hB⟩ := hrel
    have zB := hB.size
    by_cases hlt : k < len
    · obtain ⟨g, o, rfl, hg, c1, c2⟩ := (HR.out.below hB).at k (by have := HLN.out; omega)
      have HF := Lib.hid (keptP_take sd most e ps k (by have := HLN.out; omega))
      have HKK := Lib.hid (fun (W : World) (hb : Below w.heap.size w W) => HK.out W hb k (by have := HLN.out; omega))
      obtain ⟨⟨x, y⟩, hx⟩ : ∃ x, ps[k]'(by have := HLN.out; omega) = x := ⟨_, rfl⟩
      rw [hx] at c1 c2 HF HKK
      clear hx HR HK
      dsimp only at c1 c2 HF HKK
      have hbp : Below w.heap.size w (wr.alloc (.cells #[.int .i64 x, .int .u64 y] 106)) := (by repeat (first | with_reducible assumption | with_reducible exact Below.refl _ _ | with_reducible refine Below.drew ?_ | with_reducible refine Below.drewN ?_ _ | with_reducible refine Below.setCell ?_ (by first | omega | (simp; done) | (simp; omega)) _ | with_reducible refine Below.alloc ?_ (by first | omega | (simp; done) | (simp; omega) | (simp [World.setCell]; omega)) _))
      have sP := At.new wr #[.int .i64 x, .int .u64 y] 106
      go_wp2_with fail
      refine (HKK.out _ hbp).mono ?_
      rintro r w2 ⟨rfl, hb⟩
      have hb2 := keep1 hbp hb
      have z2 := hb2.size
      replace sP := sP.below hb
      have HW2 : Hid (Own2 w.heap.size w2 A' cap' (near sd most e (ps.take k))) := (HW.out.below ((Below.refl _ _).alloc (Nat.le_refl _) _)).below hb
      have fP := sP.two
      have lP := sP.lt
      clear hb hbp HW hB
      by_cases hkp : gap sd e x < most
      · rw [if_pos hkp] at HF
        rw [decide_eq_true hkp]
        clear hkp
        go_wp2_with (at_builtin; refine wpList_append_pair rfl _ _ rfl w.heap.size A' cap' n _ rfl HN.out (HW2.out.below (by repeat (first | with_reducible assumption | with_reducible exact Below.refl _ _ | with_reducible refine Below.drew ?_ | with_reducible refine Below.drewN ?_ _ | with_reducible refine Below.setCell ?_ (by first | omega | (simp; done) | (simp; omega)) _ | with_reducible refine Below.alloc ?_ (by first | omega | (simp; done) | (simp; omega) | (simp [World.setCell]; omega)) _))) _ _ (x, y) rfl (new_two0 (by simp)) (new_two1 (by simp)) (by omega) w (by repeat (first | with_reducible assumption | with_reducible exact Below.refl _ _ | with_reducible refine Below.drew ?_ | with_reducible refine Below.drewN ?_ _ | with_reducible refine Below.setCell ?_ (by first | omega | (simp; done) | (simp; omega)) _ | with_reducible refine Below.alloc ?_ (by first | omega | (simp; done) | (simp; omega) | (simp [World.setCell]; omega)) _)) (by first | omega | (simp; done) | (simp; omega) | (simp [World.setCell]; omega)) ?_; intro A2 cap2 w2 HW2 hB2)
        go_roundw
        case rel =>
          refine ⟨k + 1, n + 1, A2, cap2, by omega, by omega, by simp, rfl, ?_, ?_, hB2⟩
          · show _ = _
            rw [HF.out, List.length_append, HN.out]
            rfl
          · show Own2 _ _ _ _ _
            rw [HF.out]
            exact HW2.out
        case measure => simp [intOf]; omega
      · rw [if_neg hkp] at HF
        rw [decide_eq_false hkp]
        clear hkp
        go_wp2
        go_roundw
        case rel =>
          refine ⟨k + 1, n, A', cap', by omega, by omega, by simp, rfl, ?_, ?_, hb2⟩
          · show _ = _
            rw [HF.out, List.append_nil, HN.out]
          · show Own2 _ _ _ _ _
            rw [HF.out, List.append_nil]
            exact HW2.out
        case measure => simp [intOf]; omega
    · obtain rfl : k = len := by omega
      have hl1 : ps.take k = ps := List.take_of_length_le (by have := HLN.out; omega)
      rw [hl1, HE.out] at HN HW
      clear hl1 HR HK
      go_wp2
      go_ret
      exact ⟨A', cap', by rw [HN.out]; rfl, HW.out, hB⟩

theorem sumP_kept_take (ps : List (Int × Int)) (s : Bool) (most e : Int) (k : Nat) (hk : k < ps.length) :
    sumP (ps.take (k + 1)) - sumP (near s most e (ps.take (k + 1))) = sumP (ps.take k) - sumP (near s most e (ps.take k)) + (if gap s e (ps[k]'hk).1 < most then 0 else (ps[k]'hk).2) := by
  rw [sumP_take ps k hk, keptP_take s most e ps k hk, sumP_append]
  split
  · rw [sumP_cons, sumP_nil]; omega
  · rw [sumP_nil]; omega

set_option maxHeartbeats 1000000 in
theorem dllost_d (m : Nat) (most : Int) (ps : List (Int × Int)) (w : World) (h : DocD w m most ps) (hln : ps.length ≤ 1048576) (hgd : Gd ps) (hok : okP ps) (hs : sumP ps ≤ 9223372036854775807) (hm : 1 ≤ most ∧ most ≤ 4096) :
    Calls Tryz.prog 65 #[.pointer (some ⟨m, 0, none⟩)] w fun e w' => e = .returned (.int .u64 (sumP ps - sumP (keptP sd most ps))) ∧ Below w.heap.size w w' := by
  have HK := Lib.hid (fun (W : World) (hb : Below w.heap.size w W) (j : Nat) (hj : j < ps.length) =>
    dlkeeps_d m most (ps[j]'hj).1 ps W (h.below hb) (List.ne_nil_of_mem (List.getElem_mem hj)) hln hok hm (hok _ (List.getElem_mem hj)).1 (endP_gap hgd _ (List.getElem_mem hj)))
  have HG := Lib.hid hgd
  have HS0 := Lib.hid hs
  obtain ⟨e, hee⟩ : ∃ e, endP sd ps = e := ⟨_, rfl⟩
  have HE : Hid (near sd most e ps = keptP sd most ps) := by show _ = _; rw [← hee]; rfl
  obtain ⟨A, c, hB⟩ := h
  have f1 := hB.at'.two
  have HR := Lib.hid hB.rd
  obtain ⟨len, hlen⟩ : ∃ len, ps.length = len := ⟨_, rfl⟩
  have HLN := Lib.hid hlen
  rw [hlen] at f1 hln
  rw [hee] at HK
  clear hB hgd hok hm hee hlen hs
  go_enter Tryz.func65, Tryz.ntmps65
  go_wp2
  go_loopw [3, 5, 11] (fun v _ i wr => ∃ k : Nat, ∃ n : Int, k ≤ len ∧ i = .int .i64 k ∧ v = .int .u64 n ∧ 0 ≤ n ∧ n ≤ 9223372036854775807 ∧ Hid (n = sumP (ps.take k) - sumP (near sd most e (ps.take k))) ∧ Below w.heap.size w wr) (fun _ _ i _ => len - (intOf i).toNat)
  case atStart => exact ⟨0, 0, by omega, rfl, rfl, by omega, by omega, rfl, Below.refl _ _⟩
  case round =>
    obtain ⟨k, n, hk, rfl, rfl, hn0, hn1, HN, hB⟩ := hrel
    have zB := hB.size
    by_cases hlt : k < len
    · obtain ⟨g, o, rfl, hg, c1, c2⟩ := (HR.out.below hB).at k (by have := HLN.out; omega)
      have HF := Lib.hid (sumP_kept_take ps sd most e k (by have := HLN.out; omega))
      have HX := Lib.hid (HG.out.pos _ (List.getElem_mem (show k < ps.length by have := HLN.out; omega)))
      have HL : Hid (sumP (ps.take (k + 1)) - sumP (near sd most e (ps.take (k + 1))) ≤ 9223372036854775807) := by
        have e1 := congrArg sumP (List.take_append_drop (k + 1) ps)
        rw [sumP_append] at e1
        have := sumP_nonneg (ps := ps.drop (k + 1)) (fun x hx => HG.out.pos x (List.mem_of_mem_drop hx))
        have := (sumP_filter_le (ps := ps.take (k + 1)) (fun x hx => HG.out.pos x (List.mem_of_mem_take hx)) (fun x => decide (gap sd e x.1 < most))).1
        have := HS0.out
        show _ ≤ _
        unfold near
        omega
      have HKK := Lib.hid (fun (W : World) (hb : Below w.heap.size w W) => HK.out W hb k (by have := HLN.out; omega))
      obtain ⟨⟨x, y⟩, hx⟩ : ∃ x, ps[k]'(by have := HLN.out; omega) = x := ⟨_, rfl⟩
      rw [hx] at c1 c2 HF HKK HX
      clear hx HR HK
      dsimp only at c1 c2 HF HKK HX
      have hbp : Below w.heap.size w (wr.alloc (.cells #[.int .i64 x, .int .u64 y] 106)) := (by repeat (first | with_reducible assumption | with_reducible exact Below.refl _ _ | with_reducible refine Below.drew ?_ | with_reducible refine Below.drewN ?_ _ | with_reducible refine Below.setCell ?_ (by first | omega | (simp; done) | (simp; omega)) _ | with_reducible refine Below.alloc ?_ (by first | omega | (simp; done) | (simp; omega) | (simp [World.setCell]; omega)) _))
      have sP := At.new wr #[.int .i64 x, .int .u64 y] 106
      go_wp2_with fail
      refine (HKK.out _ hbp).mono ?_
      rintro r w2 ⟨rfl, hb⟩
      have hb2 := keep1 hbp hb
      have z2 := hb2.size
      replace sP := sP.below hb
      have fP := sP.two
      have lP := sP.lt
      clear hb hbp hB
      by_cases hkp : gap sd e x < most
      · rw [if_pos hkp] at HF
        rw [decide_eq_true hkp]
        clear hkp
        go_wp2
        go_roundw
        case rel => exact ⟨k + 1, n, by omega, by simp, rfl, hn0, hn1, Lib.hid (by have := HF.out; have := HN.out; omega), hb2⟩
        case measure => simp [intOf]; omega
      · rw [if_neg hkp] at HF
        rw [decide_eq_false hkp]
        have hw : IntKind.u64.wrap (n + y) = n + y := by have := HF.out; have := HN.out; have := HL.out; have := HX.out; simp only [IntKind.wrap_u64]; omega
        clear hkp
        go_wp2
        go_roundw
        case rel => exact ⟨k + 1, n + y, by omega, by simp, rfl, by have := HX.out; omega, by have := HF.out; have := HN.out; have := HL.out; omega, Lib.hid (by have := HF.out; have := HN.out; omega), hb2⟩
        case measure => simp [intOf]; omega
    · obtain rfl : k = len := by omega
      have hl1 : ps.take k = ps := List.take_of_length_le (by have := HLN.out; omega)
      rw [hl1, HE.out] at HN
      clear hl1 HR HK
      go_wp2
      go_ret
      exact ⟨by rw [← HN.out]; rfl, hB⟩

theorem findP_mem {t : Int} : ∀ {ps : List (Int × Int)} {s i : Int}, findP t s ps = some i → ∃ x ∈ ps, x.1 = i
  | [], _, _, h => by cases h
  | y :: ps, s, i, h => by
    unfold findP at h
    split at h
    · cases h; exact ⟨y, by simp, rfl⟩
    · obtain ⟨x, hx, e⟩ := findP_mem h
      exact ⟨x, by simp [hx], e⟩
/-- The document's answer. -/
def keepO (most e : Int) (o : Option Int) : Option Int := match o with
  | some i => if gap sd e i < most then some i else none
  | none => none
def docFind (most : Int) (ps : List (Int × Int)) (t : Int) : Option Int := keepO most (endP sd ps) (findP t 0 ps)
theorem dlfind_d (m : Nat) (most t : Int) (ps : List (Int × Int)) (w : World) (h : DocD w m most ps) (hln : ps.length ≤ 1048576) (hgd : Gd ps) (hok : okP ps) (hm : 1 ≤ most ∧ most ≤ 4096) (ht : 0 ≤ t ∧ t < 18446744073709551616) :
    Calls Tryz.prog 150 #[.pointer (some ⟨m, 0, none⟩), .int .u64 t] w fun e w' => e = .returned (optI (docFind most ps t)) ∧ Below w.heap.size w w' := by
  have HK : Hid (∀ W : World, Below w.heap.size w W → ∀ i : Int, (∃ x ∈ ps, x.1 = i) → Calls Tryz.prog 83 #[.pointer (some ⟨m, 0, none⟩), .int .i64 i] W fun e w' => e = .returned (.bool (decide (gap sd (endP sd ps) i < most))) ∧ Below W.heap.size W w') := fun W hb i hi => by
    obtain ⟨x, hx, e⟩ := hi
    subst e
    exact dlkeeps_d m most x.1 ps W (h.below hb) (List.ne_nil_of_mem hx) hln hok hm (hok x hx).1 (endP_gap hgd x hx)
  obtain ⟨A, c, hB⟩ := h
  have f1 := hB.at'.two
  have HF := Lib.hid (rfind_any A ps.length c ps t w rfl (by omega) hB.rd hok ht)
  obtain ⟨len, hlen⟩ : ∃ len, ps.length = len := ⟨_, rfl⟩
  rw [hlen] at f1 HF
  clear hB hgd hok hm hlen hln ht
  cases hf : findP t 0 ps with
  | none =>
    have HV : Hid (docFind most ps t = none) := by show _ = _; unfold docFind; rw [hf]; rfl
    rw [hf] at HF
    clear hf
    go_enter Tryz.func150, Tryz.ntmps150
    go_wp2_with fail
    refine HF.out.mono ?_
    rintro e w1 ⟨rfl, hb⟩
    rw [show optI none = .tuple #[.int .i64 0, .bool false] from rfl]
    go_wp2
    go_ret2
    exact ⟨by rw [HV.out]; rfl, hb⟩
  | some i =>
    have HI := Lib.hid (findP_mem hf)
    rw [hf] at HF
    by_cases hk : gap sd (endP sd ps) i < most
    · have HV : Hid (docFind most ps t = some i) := by show _ = _; unfold docFind keepO; rw [hf]; dsimp only; rw [if_pos hk]
      have HD := Lib.hid (decide_eq_true hk)
      clear hf hk
      go_enter Tryz.func150, Tryz.ntmps150
      go_wp2_with fail
      refine HF.out.mono ?_
      rintro e w1 ⟨rfl, hb⟩
      rw [show optI (some i) = .tuple #[.int .i64 i, .bool true] from rfl]
      go_wp2_with fail
      refine (HK.out w1 hb i HI.out).mono ?_
      rintro e w2 ⟨rfl, hb2⟩
      rw [HD.out]
      go_wp2
      go_ret2
      exact ⟨by rw [HV.out]; rfl, keep1 hb hb2⟩
    · have HV : Hid (docFind most ps t = none) := by show _ = _; unfold docFind keepO; rw [hf]; dsimp only; rw [if_neg hk]
      have HD := Lib.hid (decide_eq_false hk)
      clear hf hk
      go_enter Tryz.func150, Tryz.ntmps150
      go_wp2_with fail
      refine HF.out.mono ?_
      rintro e w1 ⟨rfl, hb⟩
      rw [show optI (some i) = .tuple #[.int .i64 i, .bool true] from rfl]
      go_wp2_with fail
      refine (HK.out w1 hb i HI.out).mono ?_
      rintro e w2 ⟨rfl, hb2⟩
      rw [HD.out]
      go_wp2
      go_ret2
      exact ⟨by rw [HV.out]; rfl, keep1 hb hb2⟩
theorem dlend_any (m : Nat) (S : List Nat) (most : Int) (ps : List (Int × Int)) (w : World) (h : DocL w m S most ps) (h0 : ps ≠ []) (hln : ps.length ≤ 1048576) :
    Calls Tryz.prog 92 #[.pointer (some ⟨m, 0, none⟩)] w fun e w' => e = .returned (.int .i64 (endP sd ps)) ∧ Below w.heap.size w w' := dlend_d m most ps w h.d h0 hln
theorem dlkeeps_any (m : Nat) (S : List Nat) (most q : Int) (ps : List (Int × Int)) (w : World) (h : DocL w m S most ps) (h0 : ps ≠ []) (hln : ps.length ≤ 1048576) (hok : okP ps) (hm : 1 ≤ most ∧ most ≤ 4096)
    (hq : -9223372036854775808 ≤ q ∧ q ≤ 9223372036854775807) (hg : 0 ≤ gap sd (endP sd ps) q) :
    Calls Tryz.prog 83 #[.pointer (some ⟨m, 0, none⟩), .int .i64 q] w fun e w' => e = .returned (.bool (decide (gap sd (endP sd ps) q < most))) ∧ Below w.heap.size w w' := dlkeeps_d m most q ps w h.d h0 hln hok hm hq hg
theorem dlkept_any (m : Nat) (S : List Nat) (most : Int) (ps : List (Int × Int)) (w : World) (h : DocL w m S most ps) (hln : ps.length ≤ 1048576) (hgd : Gd ps) (hok : okP ps) (hm : 1 ≤ most ∧ most ≤ 4096) :
    Calls Tryz.prog 64 #[.pointer (some ⟨m, 0, none⟩)] w fun e w' => CloR (keptP sd most ps) w e w' := dlkept_d m most ps w h.d hln hgd hok hm
theorem dllost_any (m : Nat) (S : List Nat) (most : Int) (ps : List (Int × Int)) (w : World) (h : DocL w m S most ps) (hln : ps.length ≤ 1048576) (hgd : Gd ps) (hok : okP ps) (hs : sumP ps ≤ 9223372036854775807) (hm : 1 ≤ most ∧ most ≤ 4096) :
    Calls Tryz.prog 65 #[.pointer (some ⟨m, 0, none⟩)] w fun e w' => e = .returned (.int .u64 (sumP ps - sumP (keptP sd most ps))) ∧ Below w.heap.size w w' := dllost_d m most ps w h.d hln hgd hok hs hm
theorem dlfind_any (m : Nat) (S : List Nat) (most t : Int) (ps : List (Int × Int)) (w : World) (h : DocL w m S most ps) (hln : ps.length ≤ 1048576) (hgd : Gd ps) (hok : okP ps) (hm : 1 ≤ most ∧ most ≤ 4096) (ht : 0 ≤ t ∧ t < 18446744073709551616) :
    Calls Tryz.prog 150 #[.pointer (some ⟨m, 0, none⟩), .int .u64 t] w fun e w' => e = .returned (optI (docFind most ps t)) ∧ Below w.heap.size w w' := dlfind_d m most t ps w h.d hln hgd hok hm ht
end Go.Proofs.YtondkkhagbcadaaGreat.Lo
/- Plain laws: where the t-th one lies, how many there are up to an index, of what is kept next to the last index; no program in sight. -/
namespace Go.Proofs.YtondkkhagbcadaaGreat.Lo
theorem findP_shift {t d : Int} : ∀ {ps : List (Int × Int)} {s : Int}, (∀ x ∈ ps, 0 < x.2) → 0 ≤ s → 0 ≤ d → s + d + sumP ps < 18446744073709551616 → 0 < t - d → findP (t - d) s ps = findP t (s + d) ps
  | [], _, _, _, _, _, _ => rfl
  | x :: ps, s, hp, hs, hd, hb, ht => by
    have h1 := hp x (by simp)
    have h2 := sumP_nonneg (ps := ps) fun y hy => hp y (by simp [hy])
    rw [sumP_cons] at hb
    unfold findP
    rw [Int.emod_eq_of_lt (by omega : 0 ≤ s + x.2) (by omega), Int.emod_eq_of_lt (by omega : 0 ≤ s + d + x.2) (by omega)]
    by_cases h : t - d ≤ s + x.2
    · rw [if_pos ⟨ht, h⟩, if_pos ⟨by omega, by omega⟩]
    · rw [if_neg (fun k => h k.2), if_neg (fun k => h (by omega)), findP_shift (fun y hy => hp y (by simp [hy])) (by omega) hd (by omega) ht]
      rw [show s + x.2 + d = s + d + x.2 by omega]
theorem near_cons_far {s : Bool} {most e : Int} {x : Int × Int} {ps : List (Int × Int)} (h : ¬ gap s e x.1 < most) : near s most e (x :: ps) = near s most e ps := by
  unfold near; rw [List.filter_cons_of_neg (by rw [decide_eq_true_eq]; exact h)]
theorem find_near {most e t : Int} : ∀ {ps : List (Int × Int)} {s : Int}, Gd ps → 0 ≤ s → s < t → s + sumP ps < 18446744073709551616 →
    keepO most e (findP t s ps) = if t ≤ s + (sumP ps - sumP (near sd most e ps)) then none else findP t (s + (sumP ps - sumP (near sd most e ps))) (near sd most e ps)
  | [], s, _, _, ht, _ => by
    rw [near_nil, sumP_nil]
    unfold findP
    rw [ite_self]
    rfl
  | x :: ps, s, h, h0, ht, hb => by
    have h1 := h.pos x (by simp)
    have h2 := sumP_nonneg h.tail.pos
    by_cases hx : gap sd e x.1 < most
    · have hn : near sd most e (x :: ps) = x :: ps := near_all h hx
      rw [hn, Int.sub_self, Int.add_zero, if_neg (by omega)]
      cases hf : findP t s (x :: ps) with
      | none => rfl
      | some i =>
        obtain ⟨y, hy, e1⟩ := findP_mem hf
        rw [← hn] at hy
        unfold keepO
        dsimp only
        rw [if_pos]
        rw [← e1]
        exact of_decide_eq_true (List.mem_filter.1 hy).2
    · have hsm := near_sum (s := sd) (most := most) (e := e) h.tail
      rw [near_cons_far hx, sumP_cons] at *
      unfold findP
      rw [Int.emod_eq_of_lt (by omega : 0 ≤ s + x.2) (by omega)]
      by_cases hle : t ≤ s + x.2
      · rw [if_pos ⟨by omega, hle⟩, if_pos (by omega)]
        unfold keepO
        dsimp only
        rw [if_neg hx]
      · rw [if_neg (fun k => hle k.2), find_near h.tail (by omega) (by omega) (by omega)]
        rw [show s + x.2 + (sumP ps - sumP (near sd most e ps)) = s + (x.2 + sumP ps - sumP (near sd most e ps)) by omega]
        cases hn : near sd most e ps with
        | nil => simp [findP]
        | cons y l => rfl
theorem lowFind_doc {most t : Int} {all : List (Int × Int)} (h : Gd all) (hs : sumP all < 18446744073709551616) (ht : 0 ≤ t) :
    lowFind (sumP all - sumP (keptP sd most all)) (keptP sd most all) t = docFind most all t := by
  have hsm := near_sum (s := sd) (most := most) (e := endP sd all) h
  have hg := near_gd (s := sd) (most := most) (e := endP sd all) h
  unfold lowFind docFind
  rw [← kept_near sd most all]
  by_cases h0 : t = 0
  · subst h0
    rw [findP_zero, if_pos (by omega)]
    rfl
  · rw [find_near h (by omega) (by omega) (by omega), Int.zero_add]
    by_cases hl : t ≤ sumP all - sumP (near sd most (endP sd all) all)
    · rw [if_pos hl, if_pos hl]
    · rw [if_neg hl, if_neg hl, findP_shift hg.pos (by omega) (by omega) (by omega) (by omega), Int.zero_add]

theorem sumP_filter_not (p : Int × Int → Bool) : ∀ (l : List (Int × Int)), sumP l = sumP (l.filter p) + sumP (l.filter fun x => !p x)
  | [] => rfl
  | x :: l => by
    have := sumP_filter_not p l
    rw [List.filter_cons, List.filter_cons, sumP_cons]
    cases hp : p x with
    | true => simp only [if_true, Bool.not_true, Bool.false_eq_true, if_false, sumP_cons]; omega
    | false => simp only [if_true, Bool.not_false, Bool.false_eq_true, if_false, sumP_cons]; omega
theorem sumP_filter_mono {p q : Int × Int → Bool} : ∀ {l : List (Int × Int)}, (∀ x ∈ l, 0 < x.2) → (∀ x ∈ l, p x = true → q x = true) → sumP (l.filter p) ≤ sumP (l.filter q)
  | [], _, _ => Int.le_refl _
  | x :: l, hp, h => by
    have h1 := hp x (by simp)
    have h2 := sumP_filter_mono (p := p) (q := q) (l := l) (fun y hy => hp y (by simp [hy])) fun y hy => h y (by simp [hy])
    have h3 := h x (by simp)
    rw [List.filter_cons, List.filter_cons]
    by_cases a : p x = true
    · rw [if_pos a, if_pos (h3 a), sumP_cons, sumP_cons]; omega
    · rw [if_neg a]
      split
      · rw [sumP_cons]; omega
      · exact h2
theorem lowBelow_doc {most q : Int} {all : List (Int × Int)} (h : Gd all) (hm : 1 ≤ most) :
    let lb := lowBelow most (sumP all - sumP (keptP sd most all)) (keptP sd most all) q
    lb.1 ≤ upto all q ∧ upto all q ≤ lb.2 ∧ (lb.1 = lb.2 ∨ 0 < sumP all - sumP (keptP sd most all)) := by
  have hsm := near_sum (s := sd) (most := most) (e := endP sd all) h
  rw [kept_near] at hsm
  have hu := upto_le q h
  by_cases hn : all = []
  · subst hn
    intro lb
    have : lb = (0, 0) := rfl
    rw [this]
    exact ⟨Int.le_refl _, Int.le_refl _, .inl rfl⟩
  · obtain ⟨k1, k2⟩ := kept_end (s := sd) (most := most) h hm hn
    have hfar := sumP_filter_not (fun x => decide (gap sd (endP sd all) x.1 < most)) all
    rw [show sumP (all.filter fun x => decide (gap sd (endP sd all) x.1 < most)) = sumP (keptP sd most all) from rfl] at hfar
    dsimp only
    unfold lowBelow
    rw [k2]
    by_cases hg : most < endP sd all - q
    · rw [if_pos ⟨ne_len.2 k1, hg⟩]
      dsimp only
      have : upto all q ≤ sumP (all.filter fun x => !decide (gap sd (endP sd all) x.1 < most)) := sumP_filter_mono h.pos fun x _ hx => by
        rw [decide_eq_true_eq] at hx
        have : gap sd (endP sd all) x.1 = endP sd all - x.1 := rfl
        simp; omega
      exact ⟨hu.1, by omega, by by_cases h0 : 0 < sumP all - sumP (keptP sd most all)
                                · exact .inr h0
                                · exact .inl (by omega)⟩
    · rw [if_neg (fun k => hg k.2)]
      dsimp only
      have h1 := sumP_filter_not (fun x => decide (gap sd (endP sd all) x.1 < most)) (all.filter fun x => decide (x.1 ≤ q))
      have h2 : sumP ((all.filter fun x => decide (x.1 ≤ q)).filter fun x => decide (gap sd (endP sd all) x.1 < most)) = upto (keptP sd most all) q := by
        unfold upto keptP
        rw [List.filter_filter, List.filter_filter]
        exact congrArg sumP (List.filter_congr fun x _ => Bool.and_comm _ _)
      have h3 : (all.filter fun x => decide (x.1 ≤ q)).filter (fun x => !decide (gap sd (endP sd all) x.1 < most)) = all.filter fun x => !decide (gap sd (endP sd all) x.1 < most) := by
        rw [List.filter_filter]
        refine List.filter_congr fun x _ => ?_
        by_cases hx : gap sd (endP sd all) x.1 < most
        · simp [hx]
        · have : gap sd (endP sd all) x.1 = endP sd all - x.1 := rfl
          have hxq : x.1 ≤ q := by omega
          simp [hx, hxq]
      rw [h2, h3] at h1
      rw [show sumP (all.filter fun x => decide (x.1 ≤ q)) = upto all q from rfl] at h1
      exact ⟨by omega, by omega, .inl rfl⟩
theorem find_one {ps : List (Int × Int)} (h : Gd ps) (hs : sumP ps < 18446744073709551616) (hn : ps ≠ []) : (findP 1 0 ps).isSome = true := by
  cases ps with
  | nil => exact absurd rfl hn
  | cons x ps =>
    have h1 := h.pos x (by simp)
    have h2 := sumP_nonneg h.tail.pos
    rw [sumP_cons] at hs
    unfold findP
    rw [Int.emod_eq_of_lt (by omega : 0 ≤ 0 + x.2) (by omega), if_pos (by omega)]
    rfl
end Go.Proofs.YtondkkhagbcadaaGreat.Lo
