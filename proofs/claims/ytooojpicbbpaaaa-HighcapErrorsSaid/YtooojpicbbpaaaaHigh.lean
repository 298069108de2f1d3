/- Contracts of package highcap: New, out, end, Total, Lost, Pairs, At, Most. -/
import Derived.Test.YtooojpicbbpaaaaProg
import Derived.Test.YtooojpicbbpaaaaStripBelow
import Derived.Test.YtooojpicbbpaaaaFar
import Derived.Test.YtooojpicbbpaaaaCap
namespace Go.Proofs.Ytooojpicbbpaaaa
open Go.RowKit

/-- The end next to which all is kept: the first one. -/
abbrev sd : Bool := false
/-- A block of three cells, and a strip of its own. -/
def HighR (w : World) (b : Nat) (S : List Nat) (most : Int) (ps : List (Int × Int)) (lost : Int) : Prop :=
  ∃ c S', S = b :: S' ∧ b ∉ S' ∧ At w b #[.int .i64 most, .pointer (some ⟨c, 0, none⟩), .int .u64 lost] 63 ∧ Strip w c S' most ps
section
variable {w w' : World} {b : Nat} {S T : List Nat} {most lost lost' : Int} {ps : List (Int × Int)}
theorem HighR.frame (h : HighR w b S most ps lost) (hf : Frame T w w') (hn : Apart S T) : HighR w' b S most ps lost := by
  obtain ⟨c, S', rfl, h1, h2, h3⟩ := h
  exact ⟨c, S', rfl, h1, hf.at h2 (hn b (by simp)), h3.frame hf fun k hk => hn k (by simp [hk])⟩
theorem HighR.below (h : HighR w b S most ps lost) (hb : Below w.heap.size w w') : HighR w' b S most ps lost := h.frame (T := []) (Frame.of_below hb) (fun _ _ => by simp)
theorem HighR.lt (h : HighR w b S most ps lost) : ∀ k ∈ S, k < w.heap.size := by
  obtain ⟨c, S', rfl, h1, h2, h3⟩ := h
  intro k hk
  rcases List.mem_cons.1 hk with rfl | hk
  · exact h2.lt
  · exact h3.lt k hk
theorem HighR.mem (h : HighR w b S most ps lost) : b ∈ S := by obtain ⟨c, S', rfl, _⟩ := h; simp
theorem HighR.set (h : HighR w b S most ps lost) : HighR (w.setCell ⟨b, 2, none⟩ (.int .u64 lost')) b S most ps lost' := by
  obtain ⟨c, S', rfl, h1, h2, h3⟩ := h
  exact ⟨c, S', rfl, h1, h2.set_any 2 _ rfl, h3.frame (Frame.set [b] _ b 2 _ (by simp)) fun k hk e => by simp at e; subst e; exact h1 hk⟩
end

/-- What is kept, and how many there are in all. -/
structure High (w : World) (b : Nat) (S : List Nat) (most : Int) (ps : List (Int × Int)) (tot : Int) : Prop where
  r : HighR w b S most ps (tot - sumP ps)
  win : Win sd most ps
  m1 : 1 ≤ most
  lo : sumP ps ≤ tot
  hi : tot ≤ 9223372036854775807
section
variable {w w' : World} {b : Nat} {S T : List Nat} {most tot : Int} {ps : List (Int × Int)}
theorem High.frame (h : High w b S most ps tot) (hf : Frame T w w') (hn : Apart S T) : High w' b S most ps tot := ⟨h.r.frame hf hn, h.win, h.m1, h.lo, h.hi⟩
theorem High.below (h : High w b S most ps tot) (hb : Below w.heap.size w w') : High w' b S most ps tot := ⟨h.r.below hb, h.win, h.m1, h.lo, h.hi⟩
theorem High.lt (h : High w b S most ps tot) : ∀ k ∈ S, k < w.heap.size := h.r.lt
theorem High.gd (h : High w b S most ps tot) : Gd ps := by obtain ⟨c, S', _, _, _, h⟩ := h.r; exact h.gd
theorem High.ok (h : High w b S most ps tot) : okP ps := by obtain ⟨c, S', _, _, _, h⟩ := h.r; exact h.ok
theorem High.len (h : High w b S most ps tot) : (ps.length : Int) ≤ most ∧ ps.length ≤ 4096 := by obtain ⟨c, S', _, _, _, h⟩ := h.r; exact h.len
theorem High.most4 (h : High w b S most ps tot) : most ≤ 4096 := by obtain ⟨c, S', _, _, _, A, k, _, h⟩ := h.r; exact h.most1
theorem High.sum0 (h : High w b S most ps tot) : 0 ≤ sumP ps := sumP_nonneg h.gd.pos
end

theorem lnew_any (most : Int) (w : World) (h1 : 1 ≤ most) (h2 : most ≤ 4096) :
    Calls Try.prog 10 #[.int .i64 most] w fun e w' => (∃ b S, e = .returned (.tuple #[.pointer (some ⟨b, 0, none⟩), .int .i64 0]) ∧ w.heap.size ≤ b ∧ Within S w.heap.size w'.heap.size ∧ High w' b S most [] 0) ∧ Below w.heap.size w w' := by
  have HS := Lib.hid (snew_any most w h1 h2)
  have H1 := Lib.hid (And.intro h1 h2)
  clear h1 h2
  go_enter Try.func10, Try.ntmps10
  go_wp2_with fail
  refine HS.out.mono ?_
  rintro e w1 ⟨⟨c, rfl, hc, hC⟩, hb⟩
  have HC := Lib.hid hC
  have z1 := hb.size
  have hcl := hC.lt c (by simp)
  have hcg : w.heap.size ≤ c := Nat.le_of_eq hc.symm
  clear hC hc
  go_wp2
  go_ret2
  have a1 := At.new w1 #[.int .i64 most, .pointer (some ⟨c, 0, none⟩), .int .u64 0] 63
  have hb2 : Below w1.heap.size w1 (w1.alloc (.cells #[.int .i64 most, .pointer (some ⟨c, 0, none⟩), .int .u64 0] 63)) := (by repeat (first | with_reducible assumption | with_reducible exact Below.refl _ _ | with_reducible refine Below.drew ?_ | with_reducible refine Below.drewN ?_ _ | with_reducible refine Below.setCell ?_ (by first | omega | (simp; done) | (simp; omega)) _ | with_reducible refine Below.alloc ?_ (by first | omega | (simp; done) | (simp; omega) | (simp [World.setCell]; omega)) _))
  refine ⟨⟨_, [w1.heap.size, c], rfl, z1, ?_, ⟨⟨c, [c], rfl, by simp; omega, a1, HC.out.below hb2⟩, win_nil, H1.out.1, by rw [sumP_nil]; omega, by omega⟩⟩, (by repeat (first | with_reducible assumption | with_reducible exact Below.refl _ _ | with_reducible refine Below.drew ?_ | with_reducible refine Below.drewN ?_ _ | with_reducible refine Below.setCell ?_ (by first | omega | (simp; done) | (simp; omega)) _ | with_reducible refine Below.alloc ?_ (by first | omega | (simp; done) | (simp; omega) | (simp [World.setCell]; omega)) _))⟩
  intro k hk
  have := a1.lt
  simp only [List.mem_cons, List.not_mem_nil, or_false] at hk
  rcases hk with rfl | rfl
  · omega
  · omega
theorem lnew_bad (most : Int) (w : World) (h : most < 1 ∨ 4096 < most) :
    Calls Try.prog 10 #[.int .i64 most] w fun e w' => e = .returned (.tuple #[.pointer none, .int .i64 1]) ∧ w = w' := by
  have HS := Lib.hid (snew_bad most w h)
  clear h
  go_enter Try.func10, Try.ntmps10
  go_wp2_with fail
  refine HS.out.mono ?_
  rintro e w1 ⟨rfl, rfl⟩
  go_wp2
  go_ret2
  exact ⟨rfl, rfl⟩

theorem lout_any (b : Nat) (S : List Nat) (most lost q e : Int) (ps : List (Int × Int)) (w : World) (h : HighR w b S most ps lost) (hm : 1 ≤ most ∧ most ≤ 4096) (hq : -9223372036854775808 ≤ q ∧ q ≤ 9223372036854775807) (he : -9223372036854775808 ≤ e ∧ e ≤ 9223372036854775807) :
    Calls Try.prog 43 #[.pointer (some ⟨b, 0, none⟩), .int .i64 q, .int .i64 e] w fun r w' => r = .returned (.bool (decide (most ≤ gap sd e q))) ∧ w = w' := by
  obtain ⟨c, S', _, _, s1, _⟩ := h
  have f1 := s1.three
  obtain ⟨x, hx⟩ : ∃ x, IntKind.u64.wrap e = x := ⟨_, rfl⟩
  obtain ⟨y, hy⟩ : ∃ y, IntKind.u64.wrap q = y := ⟨_, rfl⟩
  have hm' : IntKind.u64.wrap most = most := by simp only [IntKind.wrap_u64]; omega
  have hg : gap sd e q = q - e := rfl
  by_cases h1 : e < q
  · have hd : IntKind.u64.wrap (y - x) = q - e := by subst hx hy; simp only [IntKind.wrap_u64]; omega
    rw [hg]
    clear hg
    by_cases h2 : most ≤ q - e
    · rw [decide_eq_true h2]
      clear hq he hm
      go_enter Try.func43, Try.ntmps43
      go_wp2
      go_ret
      exact ⟨rfl, rfl⟩
    · rw [decide_eq_false h2]
      clear hq he hm
      go_enter Try.func43, Try.ntmps43
      go_wp2
      go_ret
      exact ⟨rfl, rfl⟩
  · rw [hg, decide_eq_false (by omega)]
    clear hg hq he hm hx hy
    go_enter Try.func43, Try.ntmps43
    go_wp2
    go_ret
    exact ⟨rfl, rfl⟩

/-- The end. -/
def endV (s : Bool) (ps : List (Int × Int)) : Value := if ps.length = 0 then .tuple #[.int .i64 0, .bool false] else .tuple #[.int .i64 (endP s ps), .bool true]
theorem lend_any (b : Nat) (S : List Nat) (most lost : Int) (ps : List (Int × Int)) (w : World) (h : HighR w b S most ps lost) :
    Calls Try.prog 42 #[.pointer (some ⟨b, 0, none⟩)] w fun r w' => r = .returned (endV sd ps) ∧ Below w.heap.size w w' := by
  obtain ⟨c, S', _, _, s1, hS⟩ := h
  have f1 := s1.three
  have HC := Lib.hid (sends_any c S' most ps w hS)
  clear hS
  by_cases h0 : ps.length = 0
  · have HE : Hid (endV sd ps = .tuple #[.int .i64 0, .bool false]) := by show _ = _; unfold endV; rw [if_pos h0]
    have HE2 : Hid (endsV ps = .tuple #[.int .i64 0, .int .i64 0, .bool false]) := by show _ = _; unfold endsV; rw [if_pos h0]
    clear h0
    go_enter Try.func42, Try.ntmps42
    go_wp2_with fail
    refine HC.out.mono ?_
    rintro e w1 ⟨rfl, hb⟩
    rw [HE2.out]
    go_wp2
    go_ret2
    exact ⟨by rw [HE.out]; rfl, hb⟩
  · have HE : Hid (endV sd ps = .tuple #[.int .i64 (ps.getD 0 (0, 0)).1, .bool true]) := by show _ = _; unfold endV; rw [if_neg h0]; rfl
    have HE2 : Hid (endsV ps = .tuple #[.int .i64 (ps.getD 0 (0, 0)).1, .int .i64 (ps.getD (ps.length - 1) (0, 0)).1, .bool true]) := by show _ = _; unfold endsV; rw [if_neg h0]
    clear h0
    obtain ⟨x, hx⟩ : ∃ x, (ps.getD (ps.length - 1) (0, 0)).1 = x := ⟨_, rfl⟩
    obtain ⟨y, hy⟩ : ∃ x, (ps.getD 0 (0, 0)).1 = x := ⟨_, rfl⟩
    rw [hx] at HE2
    rw [hy] at HE HE2
    clear hx hy
    go_enter Try.func42, Try.ntmps42
    go_wp2_with fail
    refine HC.out.mono ?_
    rintro e w1 ⟨rfl, hb⟩
    rw [HE2.out]
    go_wp2
    go_ret2
    exact ⟨by rw [HE.out]; rfl, hb⟩

theorem ltotal_any (b : Nat) (S : List Nat) (most tot : Int) (ps : List (Int × Int)) (w : World) (h : High w b S most ps tot) :
    Calls Try.prog 18 #[.pointer (some ⟨b, 0, none⟩)] w fun r w' => r = .returned (.int .u64 tot) ∧ Below w.heap.size w w' := by
  have hw : IntKind.u64.wrap (sumP ps + (tot - sumP ps)) = tot := by have := h.lo; have := h.hi; have := h.sum0; simp only [IntKind.wrap_u64]; omega
  obtain ⟨⟨c, S', _, _, s1, hS⟩, _⟩ := h
  have HS := Lib.hid hS
  obtain ⟨lo, hlo⟩ : ∃ lo, tot - sumP ps = lo := ⟨_, rfl⟩
  rw [hlo] at s1 hw
  clear hS hlo
  go_enter Try.func18, Try.ntmps18
  go_wp2
  have hfar1 := fun x : Far w => (x.at s1).three
  refine wp_region_far (by kernel_rfl) (by kernel_rfl) ?_
  repeat (first | go_big_quiet_skip | (go_big_quiet_want; go_big_quiet_op; first | go_big_quiet_on | (apply Exists.intro; refine ⟨fun _ => ?_, ?_⟩; (focus (first | (refine far_of_same ((stotal_any c S' most ps _ (HS.out.below (Far.below _))).mono fun _ _ h => ⟨h.1, h.2.symm⟩)))); go_big_quiet_on)))
  refine wpQuiet_nil ?_
  rintro _ ⟨xq, rfl⟩
  clear hfar1
  go_wp2
  go_ret
  exact ⟨rfl, Far.below _⟩
theorem llost_any (b : Nat) (S : List Nat) (most tot : Int) (ps : List (Int × Int)) (w : World) (h : High w b S most ps tot) :
    Calls Try.prog 16 #[.pointer (some ⟨b, 0, none⟩)] w fun r w' => r = .returned (.int .u64 (tot - sumP ps)) ∧ w = w' := by
  obtain ⟨⟨c, S', _, _, s1, hS⟩, _⟩ := h
  have f1 := s1.three
  clear hS
  go_enter Try.func16, Try.ntmps16
  go_wp2
  go_ret
  exact ⟨rfl, rfl⟩
theorem lmost_any (b : Nat) (S : List Nat) (most tot : Int) (ps : List (Int × Int)) (w : World) (h : High w b S most ps tot) :
    Calls Try.prog 22 #[.pointer (some ⟨b, 0, none⟩)] w fun r w' => r = .returned (.int .i64 most) ∧ w = w' := by
  obtain ⟨⟨c, S', _, _, s1, hS⟩, _⟩ := h
  have f1 := s1.three
  clear hS
  go_enter Try.func22, Try.ntmps22
  go_wp2
  go_ret
  exact ⟨rfl, rfl⟩
theorem lpairs_any (b : Nat) (S : List Nat) (most tot : Int) (ps : List (Int × Int)) (w : World) (h : High w b S most ps tot) :
    Calls Try.prog 15 #[.pointer (some ⟨b, 0, none⟩)] w fun e w' => CloR ps w e w' := by
  obtain ⟨⟨c, S', _, _, s1, hS⟩, _⟩ := h
  have f1 := s1.three
  have HC := Lib.hid (spairs_any c S' most ps w hS)
  clear hS
  go_enter Try.func15, Try.ntmps15
  go_wp2_with fail
  refine HC.out.mono ?_
  rintro e w' ⟨A', c', rfl, ho, hb⟩
  have HR : Hid (CloR ps w (.returned (.slice A' ps.length c')) w') := ⟨A', c', rfl, ho, hb⟩
  clear ho hb
  go_wp2
  go_ret
  exact HR.out
theorem lat_any (b : Nat) (S : List Nat) (most tot : Int) (ps : List (Int × Int)) (q : Int) (w : World) (h : High w b S most ps tot) :
    Calls Try.prog 20 #[.pointer (some ⟨b, 0, none⟩), .int .i64 q] w fun e w' => e = .returned (.int .u64 (cnt ps q)) ∧ Below w.heap.size w w' := by
  obtain ⟨⟨c, S', _, _, s1, hS⟩, _⟩ := h
  have f1 := s1.three
  have HC := Lib.hid (sat_any c S' most ps q w hS)
  clear hS
  go_enter Try.func20, Try.ntmps20
  go_wp2_with fail
  refine HC.out.mono ?_
  rintro e w1 ⟨rfl, hb⟩
  go_wp2
  go_ret
  exact ⟨rfl, hb⟩
end Go.Proofs.Ytooojpicbbpaaaa

