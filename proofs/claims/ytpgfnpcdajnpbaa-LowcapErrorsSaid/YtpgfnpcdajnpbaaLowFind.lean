/- Contracts of package lowcap: Find, Below; a nil one. -/
import Derived.Test.YtpgfnpcdajnpbaaProg
import Derived.Test.YtpgfnpcdajnpbaaLowPut
import Derived.BigQuiet
import Derived.Deep.QuietTactic
namespace Go.Proofs.Ytpgfnpcdajnpbaa
open Go.RowKit

/-- Where the t-th one lies: the lost ones lie ahead. -/
def lowFind (lo : Int) (ps : List (Int × Int)) (t : Int) : Option Int := if t ≤ lo then none else findP (t - lo) 0 ps
set_option maxRecDepth 100000 in
theorem lfind_any (b : Nat) (S : List Nat) (most tot t : Int) (ps : List (Int × Int)) (w : World) (h : Low w b S most ps tot) (ht : 0 ≤ t ∧ t < 18446744073709551616) :
    Calls Try.prog 27 #[.pointer (some ⟨b, 0, none⟩), .int .u64 t] w fun e w' => e = .returned (optI (lowFind (tot - sumP ps) ps t)) ∧ Below w.heap.size w w' := by
  have hlo0 : 0 ≤ tot - sumP ps := by have := h.lo; omega
  obtain ⟨⟨c, S', _, _, s1, hS⟩, _⟩ := h
  have HS := Lib.hid hS
  obtain ⟨lo, hlo⟩ : ∃ lo, tot - sumP ps = lo := ⟨_, rfl⟩
  rw [hlo] at s1 hlo0 ⊢
  have f1 := s1.three
  clear hS hlo
  by_cases hle : t ≤ lo
  · have HV : Hid (optI (lowFind lo ps t) = .tuple #[.int .i64 0, .bool false]) := by show _ = _; unfold lowFind; rw [if_pos hle]; rfl
    go_enter Try.func27, Try.ntmps27
    go_wp2
    go_ret2
    exact ⟨by rw [HV.out]; rfl, Below.refl _ _⟩
  · have hw : IntKind.u64.wrap (t - lo) = t - lo := by simp only [IntKind.wrap_u64]; omega
    have HC := Lib.hid (sfind_any c S' most ps (t - lo))
    have HT : Hid (0 ≤ t - lo ∧ t - lo < 18446744073709551616) := ⟨by omega, by omega⟩
    obtain ⟨fi, hfi⟩ : ∃ fi, (findP (t - lo) 0 ps).getD 0 = fi := ⟨_, rfl⟩
    obtain ⟨fb, hfb⟩ : ∃ fb, (findP (t - lo) 0 ps).isSome = fb := ⟨_, rfl⟩
    have HOP : Hid (optI (findP (t - lo) 0 ps) = .tuple #[.int .i64 fi, .bool fb]) := by show _ = _; unfold optI; rw [hfi, hfb]
    have HV : Hid (optI (lowFind lo ps t) = .tuple #[.int .i64 fi, .bool fb]) := by show _ = _; unfold lowFind; rw [if_neg hle, HOP.out]
    clear hfi hfb ht
    go_enter Try.func27, Try.ntmps27
    go_wp2
    have hfar1 := fun x : Far w => (x.at s1).three
    refine wp_region_far (by kernel_rfl) (by kernel_rfl) ?_
    repeat (first | go_big_quiet_skip | (go_big_quiet_want; go_big_quiet_op; first | go_big_quiet_on | (apply Exists.intro; refine ⟨fun _ => ?_, ?_⟩; (focus (first | (refine far_of_same ((HC.out _ (HS.out.below (Far.below _)) HT.out).mono fun _ _ h => ⟨h.1.trans (by rw [HOP.out]), h.2.symm⟩)))); go_big_quiet_on)))
    refine wpQuiet_nil ?_
    rintro _ ⟨xq, rfl⟩
    clear hfar1
    go_wp2
    go_ret2
    exact ⟨by rw [HV.out]; rfl, Far.below _⟩
theorem lnil_find (t : Int) (w : World) : Calls Try.prog 27 #[.pointer none, .int .u64 t] w fun e w' => e = .returned (.tuple #[.int .i64 0, .bool false]) ∧ w = w' := by
  go_enter Try.func27, Try.ntmps27
  go_wp2
  go_ret2
  exact ⟨rfl, rfl⟩

/-- At least, and at most. -/
def lowBelow (most lo : Int) (ps : List (Int × Int)) (q : Int) : Int × Int := if ps.length ≠ 0 ∧ most < endP sd ps - q then (0, lo) else (upto ps q + lo, upto ps q + lo)
set_option maxRecDepth 100000 in
theorem lbelow_any (b : Nat) (S : List Nat) (most tot q : Int) (ps : List (Int × Int)) (w : World) (h : Low w b S most ps tot) (hq : -9223372036854775808 ≤ q ∧ q ≤ 9223372036854775807) :
    Calls Try.prog 29 #[.pointer (some ⟨b, 0, none⟩), .int .i64 q] w fun e w' => e = .returned (.tuple #[.int .u64 (lowBelow most (tot - sumP ps) ps q).1, .int .u64 (lowBelow most (tot - sumP ps) ps q).2]) ∧ Below w.heap.size w w' := by
  have hm := And.intro h.m1 h.most4
  have hu := upto_le q h.gd
  have hsum := And.intro h.lo h.hi
  have HR := Lib.hid h.r
  have HO := Lib.hid h.ok
  obtain ⟨⟨c, S', _, _, s1, hS⟩, _⟩ := h
  have HS := Lib.hid hS
  obtain ⟨lo, hlo⟩ : ∃ lo, tot - sumP ps = lo := ⟨_, rfl⟩
  obtain ⟨n, hn⟩ : ∃ n, upto ps q = n := ⟨_, rfl⟩
  have HN := Lib.hid hn
  have hw : IntKind.u64.wrap (n + lo) = n + lo := by simp only [IntKind.wrap_u64]; omega
  rw [hlo] at s1 HR ⊢
  have f1 := s1.three
  clear hS hlo hu hsum hn
  by_cases h0 : ps = []
  · subst h0
    have HV : Hid (lowBelow most lo [] q = (n + lo, n + lo)) := by show _ = _; unfold lowBelow; rw [if_neg (fun k => k.1 rfl), HN.out]
    go_enter Try.func29, Try.ntmps29
    go_wp2_with fail
    refine (sbelow_any c S' most [] q w HS.out).mono ?_
    rintro e w1 ⟨rfl, hb1⟩
    rw [HN.out]
    go_wp2_with fail
    refine (lend_any b S most lo [] w1 (HR.out.below hb1)).mono ?_
    rintro e w2 ⟨rfl, hb⟩
    rw [show endV sd [] = .tuple #[.int .i64 0, .bool false] from rfl]
    have hb2 := keep1 hb1 hb
    have f2 := (s1.below hb2).three
    clear hb hb1 f1
    go_wp2
    go_quiet (fail)
    go_wp2
    go_ret2
    exact ⟨by rw [HV.out]; rfl, hb2.drewN _⟩
  · have he := okP.end' (s := sd) HO.out h0
    obtain ⟨e, hee⟩ : ∃ e, endP sd ps = e := ⟨_, rfl⟩
    have HEV : Hid (endV sd ps = .tuple #[.int .i64 e, .bool true]) := by show _ = _; unfold endV; rw [if_neg (ne_len.2 h0), hee]
    rw [hee] at he
    obtain ⟨x, hx⟩ : ∃ x, IntKind.u64.wrap e = x := ⟨_, rfl⟩
    obtain ⟨y, hy⟩ : ∃ y, IntKind.u64.wrap q = y := ⟨_, rfl⟩
    have hm' : IntKind.u64.wrap most = most := by simp only [IntKind.wrap_u64]; omega
    have hd : q < e → IntKind.u64.wrap (x - y) = e - q := by intro hlt; subst hx hy; simp only [IntKind.wrap_u64]; omega
    by_cases hlt : q < e
    · replace hd := hd hlt
      by_cases hg : most < e - q
      · have HV : Hid (lowBelow most lo ps q = (0, lo)) := by show _ = _; unfold lowBelow; rw [if_pos ⟨ne_len.2 h0, by rw [hee]; exact hg⟩]
        clear he hm hee hq
        go_enter Try.func29, Try.ntmps29
        go_wp2_with fail
        refine (sbelow_any c S' most ps q w HS.out).mono ?_
        rintro r w1 ⟨rfl, hb1⟩
        rw [HN.out]
        go_wp2_with fail
        refine (lend_any b S most lo ps w1 (HR.out.below hb1)).mono ?_
        rintro r w2 ⟨rfl, hb⟩
        rw [HEV.out]
        have hb2 := keep1 hb1 hb
        have f2 := (s1.below hb2).three
        clear hb hb1 f1
        go_wp2
        go_quiet (fail)
        go_wp2
        go_ret2
        exact ⟨by rw [HV.out]; rfl, hb2.drewN _⟩
      · have HV : Hid (lowBelow most lo ps q = (n + lo, n + lo)) := by show _ = _; unfold lowBelow; rw [if_neg (fun k => by rw [hee] at k; exact hg k.2), HN.out]
        clear he hm hee hq
        go_enter Try.func29, Try.ntmps29
        go_wp2_with fail
        refine (sbelow_any c S' most ps q w HS.out).mono ?_
        rintro r w1 ⟨rfl, hb1⟩
        rw [HN.out]
        go_wp2_with fail
        refine (lend_any b S most lo ps w1 (HR.out.below hb1)).mono ?_
        rintro r w2 ⟨rfl, hb⟩
        rw [HEV.out]
        have hb2 := keep1 hb1 hb
        have f2 := (s1.below hb2).three
        clear hb hb1 f1
        go_wp2
        go_quiet (fail)
        go_wp2
        go_ret2
        exact ⟨by rw [HV.out]; rfl, hb2.drewN _⟩
    · have HV : Hid (lowBelow most lo ps q = (n + lo, n + lo)) := by show _ = _; unfold lowBelow; rw [if_neg (fun k => by rw [hee] at k; have := k.2; omega), HN.out]
      clear he hm hee hq hd hx hy
      go_enter Try.func29, Try.ntmps29
      go_wp2_with fail
      refine (sbelow_any c S' most ps q w HS.out).mono ?_
      rintro r w1 ⟨rfl, hb1⟩
      rw [HN.out]
      go_wp2_with fail
      refine (lend_any b S most lo ps w1 (HR.out.below hb1)).mono ?_
      rintro r w2 ⟨rfl, hb⟩
      rw [HEV.out]
      have hb2 := keep1 hb1 hb
      have f2 := (s1.below hb2).three
      clear hb hb1 f1
      go_wp2
      go_quiet (fail)
      go_wp2
      go_ret2
      exact ⟨by rw [HV.out]; rfl, hb2.drewN _⟩
theorem lnil_below (q : Int) (w : World) : Calls Try.prog 29 #[.pointer none, .int .i64 q] w fun e w' => e = .returned (.tuple #[.int .u64 0, .int .u64 0]) ∧ w = w' := by
  go_enter Try.func29, Try.ntmps29
  go_wp2
  go_ret2
  exact ⟨rfl, rfl⟩
theorem lnil_total (w : World) : Calls Try.prog 18 #[.pointer none] w fun e w' => e = .returned (.int .u64 0) ∧ w = w' := by
  go_enter Try.func18, Try.ntmps18
  go_wp2
  go_ret
  exact ⟨rfl, rfl⟩
theorem lnil_lost (w : World) : Calls Try.prog 16 #[.pointer none] w fun e w' => e = .returned (.int .u64 0) ∧ w = w' := by
  go_enter Try.func16, Try.ntmps16
  go_wp2
  go_ret
  exact ⟨rfl, rfl⟩
theorem lnil_at (q : Int) (w : World) : Calls Try.prog 20 #[.pointer none, .int .i64 q] w fun e w' => e = .returned (.int .u64 0) ∧ w = w' := by
  go_enter Try.func20, Try.ntmps20
  go_wp2
  go_ret
  exact ⟨rfl, rfl⟩
theorem lnil_most (w : World) : Calls Try.prog 22 #[.pointer none] w fun e w' => e = .returned (.int .i64 0) ∧ w = w' := by
  go_enter Try.func22, Try.ntmps22
  go_wp2
  go_ret
  exact ⟨rfl, rfl⟩
theorem lnil_pairs (w : World) : Calls Try.prog 15 #[.pointer none] w fun e w' => e = .returned (.slice none 0 0) ∧ w = w' := by
  go_enter Try.func15, Try.ntmps15
  go_wp2
  go_ret
  exact ⟨rfl, rfl⟩
end Go.Proofs.Ytpgfnpcdajnpbaa

