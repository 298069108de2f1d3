/- Contracts of package highcap: Find, Below; a nil one. -/
import Derived.Test.YtooojpicbbpaaaaProg
import Derived.Test.YtooojpicbbpaaaaHighPut
import Derived.BigQuiet
import Derived.Deep.QuietTactic
namespace Go.Proofs.Ytooojpicbbpaaaa
open Go.RowKit

/-- Where the t-th one lies: the lost ones lie behind. -/
def lowFind (_ : Int) (ps : List (Int × Int)) (t : Int) : Option Int := findP t 0 ps
theorem lfind_any (b : Nat) (S : List Nat) (most tot t : Int) (ps : List (Int × Int)) (w : World) (h : High w b S most ps tot) (ht : 0 ≤ t ∧ t < 18446744073709551616) :
    Calls Try.prog 27 #[.pointer (some ⟨b, 0, none⟩), .int .u64 t] w fun e w' => e = .returned (optI (lowFind (tot - sumP ps) ps t)) ∧ Below w.heap.size w w' := by
  obtain ⟨⟨c, S', _, _, s1, hS⟩, _⟩ := h
  have HC := Lib.hid (sfind_any c S' most ps t w hS ht)
  obtain ⟨lo, hlo⟩ : ∃ lo, tot - sumP ps = lo := ⟨_, rfl⟩
  rw [hlo] at s1 ⊢
  have f1 := s1.three
  obtain ⟨fi, hfi⟩ : ∃ fi, (findP t 0 ps).getD 0 = fi := ⟨_, rfl⟩
  obtain ⟨fb, hfb⟩ : ∃ fb, (findP t 0 ps).isSome = fb := ⟨_, rfl⟩
  have HOP : Hid (optI (findP t 0 ps) = .tuple #[.int .i64 fi, .bool fb]) := by show _ = _; unfold optI; rw [hfi, hfb]
  have HV : Hid (optI (lowFind lo ps t) = .tuple #[.int .i64 fi, .bool fb]) := HOP
  clear hS hlo hfi hfb ht
  go_enter Try.func27, Try.ntmps27
  go_wp2_with fail
  refine HC.out.mono ?_
  rintro e w1 ⟨rfl, rfl⟩
  rw [HOP.out]
  go_wp2
  go_ret2
  exact ⟨by rw [HV.out]; rfl, Below.refl _ _⟩
theorem lnil_find (t : Int) (w : World) : Calls Try.prog 27 #[.pointer none, .int .u64 t] w fun e w' => e = .returned (.tuple #[.int .i64 0, .bool false]) ∧ w = w' := by
  go_enter Try.func27, Try.ntmps27
  go_wp2
  go_ret2
  exact ⟨rfl, rfl⟩

/-- At least, and at most. -/
def lowBelow (most lo : Int) (ps : List (Int × Int)) (q : Int) : Int × Int := if ps.length ≠ 0 ∧ most ≤ q - endP sd ps then (upto ps q, upto ps q + lo) else (upto ps q, upto ps q)
set_option maxRecDepth 100000 in
theorem lbelow_any (b : Nat) (S : List Nat) (most tot q : Int) (ps : List (Int × Int)) (w : World) (h : High w b S most ps tot) (hq : -9223372036854775808 ≤ q ∧ q ≤ 9223372036854775807) :
    Calls Try.prog 29 #[.pointer (some ⟨b, 0, none⟩), .int .i64 q] w fun e w' => e = .returned (.tuple #[.int .u64 (lowBelow most (tot - sumP ps) ps q).1, .int .u64 (lowBelow most (tot - sumP ps) ps q).2]) ∧ Below w.heap.size w w' := by
  have HM := Lib.hid (And.intro h.m1 h.most4)
  have HQ := Lib.hid hq
  have hu := upto_le q h.gd
  have hsum := And.intro h.lo h.hi
  have HR := Lib.hid h.r
  have HO := Lib.hid h.ok
  obtain ⟨⟨c, S', _, _, s1, hS⟩, _⟩ := h
  have HS := Lib.hid hS
  obtain ⟨lo, hlo⟩ : ∃ lo, tot - sumP ps = lo := ⟨_, rfl⟩
  obtain ⟨n, hn⟩ : ∃ n, upto ps q = n := ⟨_, rfl⟩
  have HN := Lib.hid hn
  have hw : IntKind.u64.wrap (n + lo) = n + lo := by simp only [IntKind.wrap_u64]; omega
  rw [hlo] at s1 HR ⊢
  have f1 := s1.three
  clear hS hlo hu hsum hn hq
  by_cases h0 : ps = []
  · subst h0
    have HV : Hid (lowBelow most lo [] q = (n, n)) := by show _ = _; unfold lowBelow; rw [if_neg (fun k => k.1 rfl), HN.out]
    go_enter Try.func29, Try.ntmps29
    go_wp2_with fail
    refine (sbelow_any c S' most [] q w HS.out).mono ?_
    rintro e w1 ⟨rfl, hb1⟩
    rw [HN.out]
    go_wp2_with fail
    refine (lend_any b S most lo [] w1 (HR.out.below hb1)).mono ?_
    rintro e w2 ⟨rfl, hb⟩
    rw [show endV sd [] = .tuple #[.int .i64 0, .bool false] from rfl]
    have hb2 := keep1 hb1 hb
    clear hb hb1 f1
    go_wp2
    go_ret2
    exact ⟨by rw [HV.out]; rfl, hb2⟩
  · have he := okP.end' (s := sd) HO.out h0
    obtain ⟨e, hee⟩ : ∃ e, endP sd ps = e := ⟨_, rfl⟩
    have HEV : Hid (endV sd ps = .tuple #[.int .i64 e, .bool true]) := by show _ = _; unfold endV; rw [if_neg (ne_len.2 h0), hee]
    rw [hee] at he
    have HE := Lib.hid he
    have HEE := Lib.hid hee
    clear he hee
    go_enter Try.func29, Try.ntmps29
    go_wp2_with fail
    refine (sbelow_any c S' most ps q w HS.out).mono ?_
    rintro r w1 ⟨rfl, hb1⟩
    rw [HN.out]
    go_wp2_with fail
    refine (lend_any b S most lo ps w1 (HR.out.below hb1)).mono ?_
    rintro r w2 ⟨rfl, hb⟩
    rw [HEV.out]
    have hb2 := keep1 hb1 hb
    have f2 := (s1.below hb2).three
    have HR2 := Lib.hid (HR.out.below hb2)
    clear hb hb1 f1
    go_wp2_with fail
    refine (lout_any b S most lo q e ps w2 HR2.out HM.out HQ.out HE.out).mono ?_
    rintro r w3 ⟨rfl, rfl⟩
    by_cases hg : most ≤ gap sd e q
    · rw [decide_eq_true hg]
      have HV : Hid (lowBelow most lo ps q = (n, n + lo)) := by show _ = _; unfold lowBelow; rw [if_pos ⟨ne_len.2 h0, by rw [HEE.out]; exact hg⟩, HN.out]
      clear hg
      go_wp2
      go_quiet (fail)
      go_wp2
      go_ret2
      exact ⟨by rw [HV.out]; rfl, hb2.drewN _⟩
    · rw [decide_eq_false hg]
      have HV : Hid (lowBelow most lo ps q = (n, n)) := by show _ = _; unfold lowBelow; rw [if_neg (fun k => by rw [HEE.out] at k; exact hg k.2), HN.out]
      clear hg
      go_wp2
      go_ret2
      exact ⟨by rw [HV.out]; rfl, hb2⟩
theorem lnil_below (q : Int) (w : World) : Calls Try.prog 29 #[.pointer none, .int .i64 q] w fun e w' => e = .returned (.tuple #[.int .u64 0, .int .u64 0]) ∧ w = w' := by
  go_enter Try.func29, Try.ntmps29
  go_wp2
  go_ret2
  exact ⟨rfl, rfl⟩
theorem lnil_total (w : World) : Calls Try.prog 18 #[.pointer none] w fun e w' => e = .returned (.int .u64 0) ∧ w = w' := by
  go_enter Try.func18, Try.ntmps18
  go_wp2
  go_ret
  exact ⟨rfl, rfl⟩
theorem lnil_lost (w : World) : Calls Try.prog 16 #[.pointer none] w fun e w' => e = .returned (.int .u64 0) ∧ w = w' := by
  go_enter Try.func16, Try.ntmps16
  go_wp2
  go_ret
  exact ⟨rfl, rfl⟩
theorem lnil_at (q : Int) (w : World) : Calls Try.prog 20 #[.pointer none, .int .i64 q] w fun e w' => e = .returned (.int .u64 0) ∧ w = w' := by
  go_enter Try.func20, Try.ntmps20
  go_wp2
  go_ret
  exact ⟨rfl, rfl⟩
theorem lnil_most (w : World) : Calls Try.prog 22 #[.pointer none] w fun e w' => e = .returned (.int .i64 0) ∧ w = w' := by
  go_enter Try.func22, Try.ntmps22
  go_wp2
  go_ret
  exact ⟨rfl, rfl⟩
theorem lnil_pairs (w : World) : Calls Try.prog 15 #[.pointer none] w fun e w' => e = .returned (.slice none 0 0) ∧ w = w' := by
  go_enter Try.func15, Try.ntmps15
  go_wp2
  go_ret
  exact ⟨rfl, rfl⟩
end Go.Proofs.Ytooojpicbbpaaaa

