/- Contract of package highcap: Load. -/
import Derived.Test.YtooojpicbbpaaaaProg
import Derived.Test.YtooojpicbbpaaaaHighPut
import Derived.Test.YtooojpicbbpaaaaGood
namespace Go.Proofs.Ytooojpicbbpaaaa
open Go.RowKit

theorem addAll_nil {rs : List (Int × Int)} (h : Gd rs) (hs : sumP rs < 18446744073709551616) : addAll [] rs = rs := by
  obtain ⟨a, _, c⟩ := addAll_spec (l := rs) Gd.nil h.pos (by rw [sumP_nil]; omega)
  exact Gd.ext a h fun i => by rw [c, cnt_nil]; omega
theorem capAll_nil {s : Bool} {most : Int} {rs : List (Int × Int)} (hm : 1 ≤ most) (h : Gd rs) (hs : sumP rs < 18446744073709551616) : capAll s most [] rs = keptP s most rs := by
  have := capAll_kept (s := s) hm Gd.nil h.pos (by rw [sumP_nil]; omega)
  rw [addAll_nil h hs] at this
  exact this
theorem filter_sum_eq {p : Int × Int → Bool} : ∀ {rs : List (Int × Int)}, (∀ x ∈ rs, 0 < x.2) → sumP rs ≤ sumP (rs.filter p) → ∀ x ∈ rs, p x = true
  | [], _, _, x, hx => by simp at hx
  | y :: rs, h, hs, x, hx => by
    have h1 := h y (by simp)
    have h2 : ∀ z ∈ rs, 0 < z.2 := fun z hz => h z (by simp [hz])
    have h3 := (sumP_filter_le h2 p).2
    rw [sumP_cons, List.filter_cons] at hs
    by_cases hy : p y = true
    · rw [if_pos hy, sumP_cons] at hs
      rcases List.mem_cons.1 hx with rfl | hx
      · exact hy
      · exact filter_sum_eq h2 (by omega) x hx
    · rw [if_neg hy] at hs
      omega
theorem win_of_sum {s : Bool} {most : Int} {rs : List (Int × Int)} (h : Gd rs) (hs : sumP rs ≤ sumP (keptP s most rs)) : Win s most rs := fun x hx =>
  of_decide_eq_true (filter_sum_eq (p := fun x => decide (gap s (endP s rs) x.1 < most)) h.pos hs x hx)

/-- Can it be loaded? -/
structure LoadOk (most : Int) (rs : List (Int × Int)) (lost : Int) : Prop where
  gm : GdM rs
  ln : (rs.length : Int) ≤ most
  sm : sumP rs + lost ≤ 9223372036854775807
  win : Win sd most rs
  em : rs = [] → lost = 0
/-- What Load answers. -/
def LoadR (most : Int) (rs : List (Int × Int)) (lost : Int) (w : World) (e : Ending) (w' : World) : Prop :=
  (LoadOk most rs lost ∧ ∃ b S, e = .returned (.tuple #[.pointer (some ⟨b, 0, none⟩), .int .i64 0]) ∧ Within S w.heap.size w'.heap.size ∧ High w' b S most rs (sumP rs + lost)) ∨
  (¬ LoadOk most rs lost ∧ e = .returned (.tuple #[.pointer none, .int .i64 1]))
theorem LoadR.bad {most : Int} {rs : List (Int × Int)} {lost : Int} {w w' : World} (h : ¬ LoadOk most rs lost) : LoadR most rs lost w (.returned (.tuple #[.pointer none, .int .i64 1])) w' := .inr ⟨h, rfl⟩

set_option maxRecDepth 100000 in
set_option maxHeartbeats 1000000 in
theorem lload_any (A : Option Addr) (len cap : Nat) (rs : List (Int × Int)) (most lost : Int) (w : World) (h1 : 1 ≤ most) (h2 : most ≤ 4096) (hl : rs.length = len) (hm : len ≤ 9223372036854775807) (hR : RdP w A rs) (hok : okP rs) (h3 : 0 ≤ lost) (h4 : lost < 18446744073709551616) :
    Calls Try.prog 25 #[.int .i64 most, .slice A len cap, .int .u64 lost] w fun e w' => LoadR most rs lost w e w' ∧ Below w.heap.size w w' := by
  have HR := Lib.hid hR
  have HO := Lib.hid hok
  have HL := Lib.hid (And.intro h3 h4)
  have H1 := Lib.hid (And.intro h1 h2)
  have HN := Lib.hid (lnew_any most w h1 h2)
  have HLN := Lib.hid hl
  clear hR hok h3 h4 h1 h2 hl
  go_enter Try.func25, Try.ntmps25
  go_wp2_with fail
  refine HN.out.mono ?_
  rintro e w1 ⟨⟨b, S0, rfl, hbw, hWi, hHigh⟩, hb1⟩
  have HT : Hid (Two w.heap.size w w1 S0 [] (High w1 b S0 most [] 0) True) := ⟨hHigh, trivial, hWi, fun k hk => by simp at hk, fun k hk hn => by simp at hn, hb1, hb1.size⟩
  have HB1 := Lib.hid hb1
  clear hbw hWi hHigh hb1 HN
  go_wp2_with fail
  refine (good_any A len cap rs most w1 HLN.out hm (HR.out.below HB1.out) HO.out).mono ?_
  rintro e w2 ⟨⟨bv, rfl, hbv⟩, hb⟩
  have HT2 := Lib.hid (HT.out.belowW hb (fun k => k.below hb) (fun k => k))
  clear hb HT HB1
  cases bv with
  | false =>
    have HBAD : Hid (¬ LoadOk most rs lost) := fun k => by have := hbv.2 ⟨k.gm, by rw [← HLN.out]; exact k.ln⟩; cases this
    clear hbv
    go_wp2
    go_ret2
    exact ⟨LoadR.bad HBAD.out, HT2.out.below⟩
  | true =>
    have HG := Lib.hid (hbv.1 rfl)
    clear hbv
    go_wp2
    go_loopw [11, 28] (fun _ i wr => ∃ k : Nat, ∃ S, k ≤ len ∧ i = .int .i64 k ∧ Hid (Two w.heap.size w wr S [] (High wr b S most (capAll sd most [] (rs.take k)) (sumP (rs.take k))) True)) (fun _ i _ => len - (intOf i).toNat)
    case atStart => exact ⟨0, S0, by omega, rfl, HT2⟩
    case round =>
      obtain ⟨k, S, hk, rfl, H⟩ := hrel
      by_cases hlt : k < len
      · obtain ⟨g, o, rfl, hg, c1, c2⟩ := (HR.out.below H.out.below).at k (by have := HLN.out; omega)
        obtain ⟨⟨b1, b2⟩, b3, b4⟩ := HO.out.at k (by have := HLN.out; omega)
        have HS := Lib.hid (sumP_take rs k (by have := HLN.out; omega))
        have HC := Lib.hid (capAll_take (s := sd) (most := most) [] rs k (by have := HLN.out; omega))
        have HX := Lib.hid (HG.out.1.gd.pos _ (List.getElem_mem (show k < rs.length by have := HLN.out; omega)))
        obtain ⟨⟨x, y⟩, hx⟩ : ∃ x, rs[k]'(by have := HLN.out; omega) = x := ⟨_, rfl⟩
        rw [hx] at c1 c2 b1 b2 b3 b4 HS HC HX
        clear hx
        dsimp only at c1 c2 b1 b2 b3 b4 HS HC HX
        have zH := H.out.size
        have HZ := fun h : Below wr.heap.size wr (wr.alloc (.cells #[.int .i64 x, .int .u64 y] 34)) => Lib.hid (H.out.belowW h (fun k => k.below h) (fun k => k))
        replace HZ := HZ ((Below.refl _ _).alloc (Nat.le_refl _) _)
        have HB : Hid ((-9223372036854775808 ≤ x ∧ x ≤ 9223372036854775807) ∧ y < 18446744073709551616) := ⟨⟨b1, b2⟩, b4⟩
        clear b1 b2 b3 b4 H HT2
        by_cases hfit : sumP (rs.take k) + y ≤ 9223372036854775807
        · have HF := Lib.hid hfit
          clear hfit
          go_wp2_with fail
          refine (ladd_any b S most _ x y _ _ HZ.out.x HX.out HF.out HB.out.1).mono ?_
          rintro e w4 ⟨rfl, S3, hg3, hC3, hF3⟩
          have H3 := HZ.out.stepX hg3 hC3 hC3.lt hF3 trivial
          rw [← HS.out, ← HC.out] at H3
          replace H3 := Lib.hid H3
          clear HZ hC3 hF3 hg3
          go_wp2
          go_roundw
          case rel => exact ⟨k + 1, S3, by omega, by simp, H3⟩
          case measure => simp [intOf]; omega
        · have HF := Lib.hid hfit
          clear hfit
          go_wp2_with fail
          refine (ladd_full b S most _ x y _ _ HZ.out.x HX.out HB.out.2 (by have := HF.out; omega)).mono ?_
          rintro e w4 ⟨rfl, hb4⟩
          have HBAD : Hid (¬ LoadOk most rs lost) := fun k' => by
            have h1 := k'.sm
            have h2 : sumP (rs.take (k + 1)) ≤ sumP rs := by
              have e := congrArg sumP (List.take_append_drop (k + 1) rs)
              rw [sumP_append] at e
              have := sumP_nonneg (ps := rs.drop (k + 1)) (fun x hx => HG.out.1.gd.pos x (List.mem_of_mem_drop hx))
              omega
            have := HS.out; have := HF.out; have := HL.out
            omega
          have HB4 := Lib.hid (HZ.out.fin hb4)
          clear hb4 HZ
          go_wp2
          go_ret2
          exact ⟨LoadR.bad HBAD.out, HB4.out⟩
      · obtain rfl : k = len := by omega
        have H1' := H.out
        rw [List.take_of_length_le (by have := HLN.out; omega)] at H1'
        have hs64 : sumP rs < 18446744073709551616 := by have := H1'.x.hi; omega
        rw [capAll_nil H1.out.1 HG.out.1.gd hs64] at H1'
        have H2 := Lib.hid H1'
        clear H H1' HT2 hs64
        have HGK := Lib.hid (near_sum (s := sd) (most := most) (e := endP sd rs) HG.out.1.gd)
        go_wp2_with fail
        refine (ltotal_any b S most _ _ wr H2.out.x).mono ?_
        rintro e w3 ⟨rfl, hb⟩
        have H3 := Lib.hid (H2.out.belowW hb (fun k => k.below hb) (fun k => k))
        have HT0 := Lib.hid (And.intro H2.out.x.sum0 (And.intro H2.out.x.lo H2.out.x.hi))
        clear hb H2
        obtain ⟨T, hT⟩ : ∃ T, sumP rs = T := ⟨_, rfl⟩
        have HTT := Lib.hid hT
        rw [hT] at HT0
        have z3 := H3.out.size
        go_wp2_with fail
        have a1 := At.new w3 #[.int .u64 T, .int .u64 lost] 32
        refine (plus2_any w3.heap.size T lost _ (by have := HT0.out; omega) (by have := HT0.out; omega) HL.out.1 HL.out.2 (a1.cell rfl) (a1.cell rfl)).mono ?_
        rintro e w4 ⟨rfl, rfl⟩
        have HB4 := Lib.hid ((Below.refl w3.heap.size w3).alloc (Nat.le_refl _) (.cells #[.int .u64 T, .int .u64 lost] 32))
        have H4 := Lib.hid (H3.out.belowW HB4.out (fun k => k.below HB4.out) (fun k => k))
        clear a1 z3 H3
        obtain ⟨W4, hW4⟩ : ∃ W4, w3.alloc (.cells #[.int .u64 T, .int .u64 lost] 32) = W4 := ⟨_, rfl⟩
        rw [hW4] at H4 ⊢
        clear hW4 HB4
        by_cases hP : T + lost ≤ 9223372036854775807
        · obtain ⟨p1, p2⟩ := plus2_yes hP
          rw [p1, p2]
          have HP := Lib.hid hP
          clear p1 p2 hP
          obtain ⟨⟨c, S', e0, hbn, s4, hS4⟩, hwin, hm1, hlo, hhi⟩ := H4.out.x
          rw [hT] at s4
          obtain ⟨lo, hlo'⟩ : ∃ lo, T - sumP (keptP sd most rs) = lo := ⟨_, rfl⟩
          rw [hlo'] at s4
          have f4 := s4.three
          have l4 := s4.lt
          rw [hT] at hlo
          by_cases hz : 0 < lo
          · have HBAD : Hid (¬ LoadOk most rs lost) := fun k' => by
              have := k'.win
              rw [kept_self k'.win] at hlo'
              omega
            clear hS4 hwin hm1 hlo hhi hlo' hT e0 hbn
            go_wp2
            go_ret2
            exact ⟨LoadR.bad HBAD.out, H4.out.below⟩
          · have hw : Win sd most rs := win_of_sum HG.out.1.gd (by omega)
            have hlo0 : lo = 0 := by omega
            by_cases hem : 0 < lost ∧ k = 0
            · obtain ⟨he1, rfl⟩ := hem
              have HBAD : Hid (¬ LoadOk most rs lost) := fun k' => by
                have := k'.em (List.eq_nil_of_length_eq_zero HLN.out)
                omega
              clear hS4 hwin hm1 hlo hhi hlo' hT e0 hbn hw hz
              subst hlo0
              go_wp2
              go_ret2
              exact ⟨LoadR.bad HBAD.out, H4.out.below⟩
            · have HOK : Hid (LoadOk most rs lost) := ⟨HG.out.1, by rw [HLN.out]; exact HG.out.2, by rw [hT]; exact HP.out, hw, fun e => by
                have := HLN.out
                rw [e] at this
                simp at this
                have := HL.out.1
                by_cases h0 : 0 < lost
                · exact absurd ⟨h0, by omega⟩ hem
                · omega⟩
              have hke := kept_self hw
              have HRES : Hid (∃ b' S, Ending.returned (.tuple #[.pointer (some ⟨b, 0, none⟩), .int .i64 0]) = .returned (.tuple #[.pointer (some ⟨b', 0, none⟩), .int .i64 0]) ∧ Within S w.heap.size (W4.setCell ⟨b, 2, none⟩ (.int .u64 lost)).heap.size ∧ High (W4.setCell ⟨b, 2, none⟩ (.int .u64 lost)) b' S most rs (sumP rs + lost)) := by
                refine ⟨b, S, rfl, by have := H4.out.ws; intro k hk; have := this k hk; simp [World.setCell]; omega, ?_, hw, hm1, by have := HL.out.1; omega, by rw [hT]; exact HP.out⟩
                rw [show sumP rs + lost - sumP rs = lost by omega]
                rw [hke] at hS4
                subst e0
                exact HighR.set (lost := lo) ⟨c, S', rfl, hbn, s4, hS4⟩
              have HBE : Hid (Below w.heap.size w (W4.setCell ⟨b, 2, none⟩ (.int .u64 lost))) := H4.out.below.setCell (H4.out.ws b (by rw [e0]; simp)).1 _
              clear hS4 hwin hm1 hlo hhi hlo' hT e0 hbn hw hz hke
              subst hlo0
              by_cases h0 : 0 < lost
              · have hk0 : k ≠ 0 := fun e => hem ⟨h0, e⟩
                clear hem
                go_wp2
                go_ret2
                exact ⟨.inl ⟨HOK.out, HRES.out⟩, HBE.out⟩
              · clear hem
                go_wp2
                go_ret2
                exact ⟨.inl ⟨HOK.out, HRES.out⟩, HBE.out⟩
        · obtain ⟨p1, p2⟩ := plus2_no hP
          rw [p1, p2]
          have HBAD : Hid (¬ LoadOk most rs lost) := fun k' => by have := k'.sm; rw [hT] at this; exact hP this
          clear p1 p2 hP hT
          go_wp2
          go_ret2
          exact ⟨LoadR.bad HBAD.out, H4.out.below⟩
end Go.Proofs.Ytooojpicbbpaaaa

