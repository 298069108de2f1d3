/- Texts of this claim, joined, indents halved: StripAll, Vals, VEnds. -/
import Derived.Test.YtlbnlmhcpephbaaGreatDoorProg
import Derived.BigQuiet
import Derived.Deep.QuietTactic
import Derived.WalkMore
import Derived.ScopeJumps
import Derived.Test.YtlbnlmhcpephbaaGreatDoorKe4
namespace Go.Proofs.YtlbnlmhcpephbaaGreatDoor
open Go.RowKit
structure StripB (w : World) (b : Nat) (A : Option Addr) (c : Nat) (most : Int) (ps : List (Int × Int)) : Prop where
 at' : At w b #[.int .i64 most, .slice A ps.length c, .int .u64 (sumP ps)] 214
 own : Own2 0 w A c ps
 ne : b ∉ blk A
 gd : Gd ps
 ok : okP ps
 sum : sumP ps ≤ 9223372036854775807
 len : (ps.length : Int) ≤ most
 most1 : most ≤ 4096
def Strip (w : World) (b : Nat) (S : List Nat) (most : Int) (ps : List (Int × Int)) : Prop := ∃ A c, S = b :: blk A ∧ StripB w b A c most ps
section
variable {w w' : World} {b : Nat} {S T : List Nat} {most : Int} {ps : List (Int × Int)}
theorem Own2.frame {base c : Nat} {A : Option Addr} (h : Own2 base w A c ps) (hf : Frame T w w') (hn : ∀ k ∈ blk A, k ∉ T) : Own2 base w' A c ps := by
 obtain ⟨h1, h2⟩ := h
 refine ⟨h1, ?_⟩
 rcases h2 with h2 | ⟨g, cp, cur, e, hg, hc, r⟩
 ·exact .inl h2
 ·refine .inr ⟨g, cp, cur, e, hg, (hf.block g (Array.getElem?_eq_some_iff.1 hc).1 (hn g ?_)).trans hc, r⟩
  simp only [Value.slice.injEq] at e
  rw [e.1]
  simp [blk]
theorem Strip.frame (h : Strip w b S most ps) (hf : Frame T w w') (hn : Apart S T) : Strip w' b S most ps := by
 obtain ⟨A, c, rfl, h⟩ := h
 exact ⟨A, c, rfl, hf.at h.at' (hn b (by simp)), h.own.frame hf (fun k hk => hn k (by simp [hk])), h.ne, h.gd, h.ok, h.sum, h.len, h.most1⟩
theorem Strip.below (h : Strip w b S most ps) (hb : Below w.heap.size w w') : Strip w' b S most ps := h.frame (T := []) (Frame.of_below hb) (fun _ _ => by simp)
theorem Strip.lt (h : Strip w b S most ps) : ∀ k ∈ S, k < w.heap.size := by
 obtain ⟨A, c, rfl, h⟩ := h
 intro k hk
 rcases List.mem_cons.1 hk with rfl | hk
 ·exact h.at'.lt
 ·cases A with
  | none => simp [blk] at hk
  | some a => simp only [blk, List.mem_singleton] at hk; subst hk; exact (h.own.base_le a rfl).2
theorem Strip.gd (h : Strip w b S most ps) : Gd ps := by obtain ⟨A, c, _, h⟩ := h; exact h.gd
theorem Strip.ok (h : Strip w b S most ps) : okP ps := by obtain ⟨A, c, _, h⟩ := h; exact h.ok
theorem Strip.sum (h : Strip w b S most ps) : sumP ps ≤ 9223372036854775807 := by obtain ⟨A, c, _, h⟩ := h; exact h.sum
theorem Strip.len (h : Strip w b S most ps) : (ps.length : Int) ≤ most ∧ ps.length ≤ 4096 := by obtain ⟨A, c, _, h⟩ := h; exact ⟨h.len, by have := h.len; have := h.most1; omega⟩
end
theorem snew_any (most : Int) (w : World) (h1 : 1 ≤ most) (h2 : most ≤ 4096) :
  Calls Tryz.prog 59 #[.int .i64 most] w fun e w' => (∃ b, e = .returned (.tuple #[.pointer (some ⟨b, 0, none⟩), .int .i64 0]) ∧ b = w.heap.size ∧ Strip w' b [b] most []) ∧ Below w.heap.size w w' := by
 have hs : At (w.alloc (.cells #[.int .i64 most, .slice none 0 0, .int .u64 0] 214)) w.heap.size #[.int .i64 most, .slice none 0 0, .int .u64 0] 214 := At.new w _ _
 have HS : Hid (Strip (w.alloc (.cells #[.int .i64 most, .slice none 0 0, .int .u64 0] 214)) w.heap.size [w.heap.size] most []) := ⟨none, 0, rfl, hs, Own2.nil _ _, by simp [blk], Gd.nil, fun x hx => by simp at hx, by rw [sumP_nil]; omega, by simp; omega, h2⟩
 clear hs
 have n1 : ¬ most < 1 := by omega
 have n2 : ¬ 4096 < most := by omega
 clear h1 h2
 go_enter Tryz.func59, Tryz.ntmps59
 go_wp2
 go_ret2
 exact ⟨⟨_, rfl, rfl, HS.out⟩, (by repeat (first | with_reducible assumption | with_reducible exact Below.refl _ _ | with_reducible refine Below.drew ?_ | with_reducible refine Below.drewN ?_ _ | with_reducible refine Below.setCell ?_ (by first | omega | (simp; done) | (simp; omega)) _ | with_reducible refine Below.alloc ?_ (by first | omega | (simp; done) | (simp; omega) | (simp [World.setCell]; omega)) _))⟩
theorem snew_bad (most : Int) (w : World) (h : most < 1 ∨ 4096 < most) :
  Calls Tryz.prog 59 #[.int .i64 most] w fun e w' => e = .returned (.tuple #[.pointer none, .int .i64 1]) ∧ w = w' := by
 by_cases h1 : most < 1
 ·clear h
  go_enter Tryz.func59, Tryz.ntmps59
  go_wp2
  go_ret2
  exact ⟨rfl, rfl⟩
 ·have h2 : 4096 < most := by omega
  clear h
  go_enter Tryz.func59, Tryz.ntmps59
  go_wp2
  go_ret2
  exact ⟨rfl, rfl⟩
theorem slen_any (b : Nat) (S : List Nat) (most : Int) (ps : List (Int × Int)) (w : World) (h : Strip w b S most ps) :
  Calls Tryz.prog 160 #[.pointer (some ⟨b, 0, none⟩)] w fun e w' => e = .returned (.int .i64 (ps.length : Nat)) ∧ w = w' := by
 obtain ⟨A, c, _, h⟩ := h
 have f1 := h.at'.three
 clear h
 go_enter Tryz.func160, Tryz.ntmps160
 go_wp2
 go_ret
 exact ⟨rfl, rfl⟩
theorem stotal_any (b : Nat) (S : List Nat) (most : Int) (ps : List (Int × Int)) (w : World) (h : Strip w b S most ps) :
  Calls Tryz.prog 106 #[.pointer (some ⟨b, 0, none⟩)] w fun e w' => e = .returned (.int .u64 (sumP ps)) ∧ w = w' := by
 obtain ⟨A, c, _, h⟩ := h
 have f1 := h.at'.three
 clear h
 go_enter Tryz.func106, Tryz.ntmps106
 go_wp2
 go_ret
 exact ⟨rfl, rfl⟩
theorem spairs_any (b : Nat) (S : List Nat) (most : Int) (ps : List (Int × Int)) (w : World) (h : Strip w b S most ps) :
  Calls Tryz.prog 211 #[.pointer (some ⟨b, 0, none⟩)] w fun e w' => CloR ps w e w' := by
 have hl := h.len.2
 obtain ⟨A, c, _, h⟩ := h
 have f1 := h.at'.three
 have HC := Lib.hid (clone_any 0 A c ps w h.own (by omega))
 clear h
 go_enter Tryz.func211, Tryz.ntmps211
 go_wp2_with fail
 refine HC.out.mono ?_
 rintro e w' ⟨A', c', rfl, ho, hb⟩
 have HR : Hid (CloR ps w (.returned (.slice A' ps.length c')) w') := ⟨A', c', rfl, ho, hb⟩
 clear ho hb
 go_wp2
 go_ret
 exact HR.out
set_option maxRecDepth 100000 in
theorem sat_any (b : Nat) (S : List Nat) (most : Int) (ps : List (Int × Int)) (q : Int) (w : World) (h : Strip w b S most ps) :
    Calls Tryz.prog 217 #[.pointer (some ⟨b, 0, none⟩), .int .i64 q] w fun e w' => e = .returned (.int .u64 (cnt ps q)) ∧ Below w.heap.size w w' := by
  have hl := h.len.2
  have hg := h.gd
  obtain ⟨A, c, _, h⟩ := h
  have s1 := h.at'
  have f1 := h.at'.three
  have HC := Lib.hid (rfind06_any A c ps.length ps q w rfl h.own.rd hg (by omega))
  have HO := Lib.hid h.own.rd
  have HG := Lib.hid hg
  clear h hg
  obtain ⟨n, hn⟩ : ∃ n, ps.length = n := ⟨_, rfl⟩
  have HN := Lib.hid hn
  rw [hn] at HC s1 f1
  clear hn
  go_enter Tryz.func217, Tryz.ntmps217
  go_wp2_with fail
  refine HC.out.mono ?_
  rintro e w1 ⟨⟨k, f, rfl, hp, hf⟩, hb1⟩
  have f2 := (s1.below hb1).three
  clear f1
  cases f with
  | true =>
    obtain ⟨hk, hq⟩ := hf.1 rfl
    have HV := Lib.hid (posn_found HG.out hp hk hq).2
    obtain ⟨g, o, rfl, hg, hc1, hc2⟩ := (HO.out.below hb1).at' k hk
    obtain ⟨v, hv⟩ : ∃ v, (ps.getD k (0, 0)).2 = v := ⟨_, rfl⟩
    rw [hv] at hc2 HV
    have k0 : (0 : Int) ≤ k := by omega
    have k1 : (k : Int) < n := by have := HN.out; omega
    clear hf hp hq hk hc1 hv
    go_wp2
    go_ret
    exact ⟨by rw [HV.out]; rfl, hb1⟩
  | false =>
    have HV := Lib.hid (posn_none HG.out hp (fun h => by have := hf.2 h; cases this)).2
    clear hf hp
    go_wp2
    go_ret
    exact ⟨by rw [HV.out]; rfl, hb1⟩
def endsV (ps : List (Int × Int)) : Value := if ps.length = 0 then .tuple #[.int .i64 0, .int .i64 0, .bool false] else .tuple #[.int .i64 (ps.getD 0 (0, 0)).1, .int .i64 (ps.getD (ps.length - 1) (0, 0)).1, .bool true]
set_option maxRecDepth 100000 in
theorem sends_any (b : Nat) (S : List Nat) (most : Int) (ps : List (Int × Int)) (w : World) (h : Strip w b S most ps) :
  Calls Tryz.prog 155 #[.pointer (some ⟨b, 0, none⟩)] w fun e w' => e = .returned (endsV ps) ∧ Below w.heap.size w w' := by
 have hl := h.len.2
 have HL := Lib.hid (slen_any b S most ps w h)
 obtain ⟨A, c, _, h⟩ := h
 have f1 := h.at'.three
 have HO := Lib.hid h.own.rd
 clear h
 obtain ⟨n, hn⟩ : ∃ n, ps.length = n := ⟨_, rfl⟩
 have HN := Lib.hid hn
 have HV : Hid (endsV ps = if n = 0 then .tuple #[.int .i64 0, .int .i64 0, .bool false] else .tuple #[.int .i64 (ps.getD 0 (0, 0)).1, .int .i64 (ps.getD (n - 1) (0, 0)).1, .bool true]) := by show _ = _; unfold endsV; rw [hn]
 rw [hn] at HL f1 hl
 clear hn
 by_cases h0 : n = 0
 ·subst h0
  go_enter Tryz.func155, Tryz.ntmps155
  go_wp2_with fail
  refine HL.out.mono ?_
  rintro e w1 ⟨rfl, rfl⟩
  go_wp2
  go_ret3
  exact ⟨by rw [HV.out]; rfl, Below.refl _ _⟩
 ·obtain ⟨g, o, rfl, hg, hc1, hc2⟩ := HO.out.at' 0 (by have := HN.out; omega)
  obtain ⟨g', o', e, hg', hd1, hd2⟩ := HO.out.at' (n - 1) (by have := HN.out; omega)
  cases e
  obtain ⟨x, hx⟩ : ∃ x, (ps.getD 0 (0, 0)).1 = x := ⟨_, rfl⟩
  obtain ⟨y, hy⟩ : ∃ y, (ps.getD (n - 1) (0, 0)).1 = y := ⟨_, rfl⟩
  rw [hx] at hc1 HV
  rw [hy] at hd1 HV
  obtain ⟨m, rfl⟩ : ∃ m, n = m + 1 := ⟨n - 1, by omega⟩
  have v1 : IntKind.i64.wrap (((m + 1 : Nat) : Int) - 1) = m := by simp only [IntKind.wrap_i64]; omega
  rw [Nat.add_sub_cancel] at hd1
  rw [Nat.zero_mul, Nat.add_zero] at hc1
  have n0 : ((((m + 1 : Nat)) : Int) == 0) = false := beq_eq_false_iff_ne.2 (by omega)
  have k0 : (0 : Int) ≤ m := by omega
  have k1 : (m : Int) < ((m + 1 : Nat) : Int) := by omega
  have k2 : (0 : Int) < ((m + 1 : Nat) : Int) := by omega
  clear hx hy h0 hd2 hc2
  go_enter Tryz.func155, Tryz.ntmps155
  go_wp2_with fail
  refine HL.out.mono ?_
  rintro e w1 ⟨rfl, rfl⟩
  go_wp2
  go_quiet (fail)
  go_wp2
  go_ret3
  exact ⟨by rw [HV.out]; first | rfl | simp, (Below.refl _ _).drewN _⟩
end Go.Proofs.YtlbnlmhcpephbaaGreatDoor
namespace Go.Proofs.YtlbnlmhcpephbaaGreatDoor
open Go.RowKit
def stRoom (most : Int) (ps : List (Int × Int)) (q cc : Int) : Prop := cc ≤ 9223372036854775807 - sumP ps ∧ ((rowAdd ps q cc).length : Int) ≤ most
instance (most : Int) (ps : List (Int × Int)) (q cc : Int) : Decidable (stRoom most ps q cc) := by unfold stRoom; infer_instance
def stCode (most : Int) (ps : List (Int × Int)) (q cc : Int) : Int := if 0 < cc then (if stRoom most ps q cc then 0 else 6) else 1
def stStep (most : Int) (ps : List (Int × Int)) (q cc : Int) : List (Int × Int) := if 0 < cc ∧ stRoom most ps q cc then rowAdd ps q cc else ps
theorem rowAdd_length {ps : List (Int × Int)} {q cc : Int} {k : Nat} {f : Bool} (hg : Gd ps) (hp : Posn ps q k) (hf : f = true ↔ k < ps.length ∧ (ps.getD k (0, 0)).1 = q) (hc : 0 < cc) (hs : cnt ps q + cc < 18446744073709551616) :
    (rowAdd ps q cc).length = if f = true then ps.length else ps.length + 1 := by
  rw [rowAdd_eq hg hc hs, posn_lt hp]
  cases f with
  | true =>
    obtain ⟨hk, hq⟩ := hf.1 rfl
    rw [(posn_found hg hp hk hq).1, if_pos rfl]
    simp only [List.length_append, List.length_take, List.length_drop, List.length_singleton]
    omega
  | false =>
    rw [(posn_none hg hp (fun h => by have := hf.2 h; cases this)).1, if_neg (by decide)]
    simp only [List.length_append, List.length_take, List.length_drop, List.length_singleton]
    have := hp.le
    omega
def SadR (b : Nat) (S : List Nat) (most : Int) (ps : List (Int × Int)) (q cc : Int) (w : World) (e : Ending) (w' : World) : Prop :=
 e = .returned (.int .i64 (stCode most ps q cc)) ∧ ∃ S', GrownS S S' w.heap.size ∧ Strip w' b S' most (stStep most ps q cc) ∧ Frame S w w'
theorem sadd_zero (b : Nat) (S : List Nat) (most : Int) (ps : List (Int × Int)) (q : Int) (w : World) (h : Strip w b S most ps) :
  Calls Tryz.prog 105 #[.pointer (some ⟨b, 0, none⟩), .int .i64 q, .int .u64 0] w fun e w' => SadR b S most ps q 0 w e w' := by
 have HR : Hid (SadR b S most ps q 0 w (.returned (.int .i64 1)) w) := ⟨by unfold stCode; rw [if_neg (by omega)], S, GrownS.refl _ _, by unfold stStep; rw [if_neg (by omega)]; exact h, Frame.refl _ _⟩
 clear h
 go_enter Tryz.func105, Tryz.ntmps105
 go_wp2
 go_ret
 exact HR.out
set_option maxRecDepth 100000 in
set_option maxHeartbeats 4000000 in
theorem sadd_pos (b : Nat) (S : List Nat) (most : Int) (ps : List (Int × Int)) (q cc : Int) (w : World) (h : Strip w b S most ps) (hc : 0 < cc) (hc' : cc < 18446744073709551616) (hq : -9223372036854775808 ≤ q ∧ q ≤ 9223372036854775807) :
    Calls Tryz.prog 105 #[.pointer (some ⟨b, 0, none⟩), .int .i64 q, .int .u64 cc] w fun e w' => SadR b S most ps q cc w e w' := by
  have h0 := h
  obtain ⟨A, c, rfl, hB⟩ := h
  have s1 := hB.at'
  have hs0 := sumP_nonneg hB.gd.pos
  have hle := cnt_le_sumP hB.gd.pos q
  have hsum := hB.sum
  have hl := h0.len
  have HC := Lib.hid (fun W (hb : Below w.heap.size w W) => rfind06_any A c ps.length ps q W rfl (hB.own.rd.below hb) hB.gd (by omega))
  have HB := Lib.hid hB
  have H0 := Lib.hid h0
  have HQ := Lib.hid hq
  obtain ⟨n, hn⟩ : ∃ n, ps.length = n := ⟨_, rfl⟩
  obtain ⟨T, hT⟩ : ∃ T, sumP ps = T := ⟨_, rfl⟩
  have HN := Lib.hid hn
  have HTT := Lib.hid hT
  rw [hn, hT] at s1
  rw [hn] at HC hl
  rw [hT] at hs0 hle hsum
  have f1 := s1.three
  have hcc : (cc == 0) = false := beq_eq_false_iff_ne.2 (by omega)
  have HCC := Lib.hid (And.intro hc (And.intro hc' (And.intro hs0 (And.intro hle (And.intro hsum hl)))))
  have l1 := s1.lt
  clear hB h0 hn hT hq hc hc' hs0 hle hsum hl
  go_enter Tryz.func105, Tryz.ntmps105
  go_wp2_with fail
  have a1 := At.new w #[.int .u64 T, .int .u64 cc] 23
  refine (plus2_any w.heap.size T cc _ (by have := HCC.out; omega) (by have := HCC.out; omega) (by have := HCC.out; omega) (by have := HCC.out; omega) (a1.cell rfl) (a1.cell rfl)).mono ?_
  rintro e w1 ⟨rfl, rfl⟩
  have hb1 : Below w.heap.size w (w.alloc (.cells #[.int .u64 T, .int .u64 cc] 23)) := (by repeat (first | with_reducible assumption | with_reducible exact Below.refl _ _ | with_reducible refine Below.drew ?_ | with_reducible refine Below.drewN ?_ _ | with_reducible refine Below.setCell ?_ (by first | omega | (simp; done) | (simp; omega)) _ | with_reducible refine Below.alloc ?_ (by first | omega | (simp; done) | (simp; omega) | (simp [World.setCell]; omega)) _))
  obtain ⟨W1, hW1⟩ : ∃ W1, w.alloc (.cells #[.int .u64 T, .int .u64 cc] 23) = W1 := ⟨_, rfl⟩
  rw [hW1] at hb1 ⊢
  have f2 := (s1.below hb1).three
  have hP : T + cc ≤ 9223372036854775807 ∨ ¬ T + cc ≤ 9223372036854775807 := by omega
  clear a1 hW1 f1
  rcases hP with hP | hP
  · obtain ⟨p1, p2⟩ := plus2_yes hP
    rw [p1, p2]
    have HP := Lib.hid hP
    clear p1 p2 hP
    go_wp2_with fail
    refine (HC.out W1 hb1).mono ?_
    rintro e w2 ⟨⟨k, f, rfl, hp, hf⟩, hb⟩
    have hb2 := keep1 hb1 hb
    have s3 := s1.below hb2
    have f3 := s3.three
    have hrl := rowAdd_length (f := f) HB.out.gd hp hf HCC.out.1 (by have := HCC.out; have := HP.out; omega)
    rw [HN.out] at hrl
    clear hb hb1 f2 hp hf
    by_cases hfull : f = false ∧ most ≤ n
    · obtain ⟨rfl, hm⟩ := hfull
      have HR : Hid (∀ m, SadR b (b :: blk A) most ps q cc w (.returned (.int .i64 6)) (w2.drewN m)) := fun m => by
        have hnr : ¬ stRoom most ps q cc := fun h => by have := h.2; rw [hrl, if_neg (by decide)] at this; omega
        exact ⟨by unfold stCode; rw [if_pos HCC.out.1, if_neg hnr], _, GrownS.refl _ _, by unfold stStep; rw [if_neg (fun h => hnr h.2)]; exact H0.out.below (hb2.drewN m), Frame.of_below (hb2.drewN m)⟩
      clear hrl hb2
      go_wp2
      go_quiet (fail)
      go_wp2
      go_ret
      exact HR.out _
    · have hroom : stRoom most ps q cc := by
        refine ⟨by have := HP.out; rw [HTT.out]; omega, ?_⟩
        rw [hrl]
        have := HCC.out
        cases f with
        | true => rw [if_pos rfl]; omega
        | false => rw [if_neg (by decide)]; have : ¬ most ≤ n := fun h => hfull ⟨rfl, h⟩; omega
      have HADD : Hid (∀ m, Calls Tryz.prog 127 #[.slice A n c, .int .i64 q, .int .u64 cc] (w2.drewN m) fun e w' => ∃ A' c' len, e = .returned (.slice A' len c') ∧ Hid (SadR b (b :: blk A) most ps q cc w (.returned (.int .i64 0)) ((w'.setCell ⟨b, 1, none⟩ (.slice A' len c')).setCell ⟨b, 2, none⟩ (.int .u64 (T + cc)))) ∧ At w' b #[.int .i64 most, .slice A n c, .int .u64 T] 214) := fun m => by
        have hbm := hb2.drewN m
        have hs := show cnt ps q + cc < 18446744073709551616 by have := HCC.out; have := HP.out; omega
        have := add06_any 0 A c ps q cc (w2.drewN m) (HB.out.own.below hbm) HB.out.gd (by rw [HN.out]; have := HCC.out; omega) HCC.out.1 hs (Nat.zero_le _)
        rw [HN.out] at this
        refine this.mono ?_
        rintro e w' ⟨A', c', rfl, ho, hfr, hk⟩
        have hat := hfr.at (s1.below hbm) HB.out.ne
        have hbn : b ∉ blk A' := fun hm => by
          rcases hk b hm with h | h
          · exact HB.out.ne h
          · have : b < w.heap.size := s1.lt
            have := hbm.size
            omega
        refine ⟨A', c', _, rfl, ⟨by unfold stCode; rw [if_pos HCC.out.1, if_pos hroom], b :: blk A', fun k hm => ?_, ?_, ?_⟩, hat⟩
        · rcases List.mem_cons.1 hm with rfl | hm
          · exact .inl (by simp)
          · rcases hk k hm with h | h
            · exact .inl (by simp [h])
            · exact .inr (Nat.le_trans hbm.size h)
        · unfold stStep
          rw [if_pos ⟨HCC.out.1, hroom⟩]
          refine ⟨A', c', rfl, ?_, ?_, hbn, HB.out.gd.rowAdd HCC.out.1 hs, okP_rowAdd HB.out.ok HQ.out, by rw [sumP_rowAdd HB.out.gd HCC.out.1 hs, HTT.out]; exact HP.out, hroom.2, HB.out.most1⟩
          · rw [sumP_rowAdd HB.out.gd HCC.out.1 hs, HTT.out]
            exact (hat.set_any 1 _ rfl).set_any 2 _ rfl
          · exact (ho.frame (Frame.set [b] _ b 1 _ (by simp)) (fun k hk e => by simp at e; subst e; exact hbn hk)).frame (Frame.set [b] _ b 2 _ (by simp)) (fun k hk e => by simp at e; subst e; exact hbn hk)
        · exact ((((Frame.of_below hbm).trans (hfr.mono fun k hk => by simp [hk])).setc (.inl (by simp)) 1 _).setc (.inl (by simp)) 2 _)
      have hw1 : ¬ (most ≤ n ∧ f = false) := fun h => hfull ⟨h.2, h.1⟩
      have hl3 := s3.lt
      clear hrl hb2 hroom HP HC
      cases f with
      | true =>
        clear hw1 hfull
        go_wp2
        go_quiet (fail)
        go_wp2_with fail
        refine (HADD.out _).mono ?_
        rintro e w4 ⟨A', c', len, rfl, HR, hat⟩
        have f4 := hat.three
        go_wp2
        go_ret
        exact HR.out
      | false =>
        have hm : (n : Int) < most := by
          rcases Int.lt_or_le n most with h | h
          · exact h
          · exact absurd ⟨rfl, h⟩ hfull
        clear hw1 hfull
        go_wp2
        go_quiet (fail)
        go_wp2_with fail
        refine (HADD.out _).mono ?_
        rintro e w4 ⟨A', c', len, rfl, HR, hat⟩
        have f4 := hat.three
        go_wp2
        go_ret
        exact HR.out
  · obtain ⟨p1, p2⟩ := plus2_no hP
    rw [p1, p2]
    have HP := Lib.hid hP
    clear p1 p2 hP
    go_wp2_with fail
    refine (HC.out W1 hb1).mono ?_
    rintro e w2 ⟨⟨k, f, rfl, hp, hf⟩, hb⟩
    have hb2 := keep1 hb1 hb
    have s3 := s1.below hb2
    have f3 := s3.three
    have HR : Hid (∀ m, SadR b (b :: blk A) most ps q cc w (.returned (.int .i64 6)) (w2.drewN m)) := fun m => by
      have hnr : ¬ stRoom most ps q cc := fun h => by have := h.1; rw [HTT.out] at this; have := HP.out; omega
      exact ⟨by unfold stCode; rw [if_pos HCC.out.1, if_neg hnr], _, GrownS.refl _ _, by unfold stStep; rw [if_neg (fun h => hnr h.2)]; exact H0.out.below (hb2.drewN m), Frame.of_below (hb2.drewN m)⟩
    clear hb hb1 f2 hp hf hb2
    go_wp2
    go_quiet (fail)
    go_wp2
    go_ret
    exact HR.out _
theorem sadd_any (b : Nat) (S : List Nat) (most : Int) (ps : List (Int × Int)) (q cc : Int) (w : World) (h : Strip w b S most ps) (hc : 0 ≤ cc) (hc' : cc < 18446744073709551616) (hq : -9223372036854775808 ≤ q ∧ q ≤ 9223372036854775807) :
  Calls Tryz.prog 105 #[.pointer (some ⟨b, 0, none⟩), .int .i64 q, .int .u64 cc] w fun e w' => SadR b S most ps q cc w e w' := by
 by_cases h0 : cc = 0
 ·subst h0; exact sadd_zero b S most ps q w h
 ·exact sadd_pos b S most ps q cc w h (by omega) hc' hq
end Go.Proofs.YtlbnlmhcpephbaaGreatDoor
namespace Go.Proofs.YtlbnlmhcpephbaaGreatDoor
open Go.RowKit
def outF (ps : List (Int × Int)) (i : Nat) : List (Int × Int) := ps.take i ++ ps.drop (i + 1)
theorem outF_split {ps : List (Int × Int)} {i : Nat} (hi : i < ps.length) : ps = ps.take i ++ ps.getD i (0, 0) :: ps.drop (i + 1) := by rw [← drop_cons hi, List.take_append_drop]
theorem gd_outF {ps : List (Int × Int)} (h : Gd ps) (i : Nat) : Gd (outF ps i) := by
 have hsub : (outF ps i).Sublist ps := by
  unfold outF
  conv => rhs; rw [← List.take_append_drop i ps]
  refine List.Sublist.append (List.Sublist.refl _) ?_
  rw [show ps.drop (i + 1) = (ps.drop i).drop 1 by rw [List.drop_drop]]
  exact List.drop_sublist _ _
 exact ⟨h.srt.sublist hsub, fun x hx => h.pos x (hsub.subset hx)⟩
theorem outF_mem {ps : List (Int × Int)} {i : Nat} {x : Int × Int} (h : x ∈ outF ps i) : x ∈ ps := by
 unfold outF at h
 rcases List.mem_append.1 h with h | h
 ·exact List.mem_of_mem_take h
 ·exact List.mem_of_mem_drop h
theorem sumP_outF {ps : List (Int × Int)} {i : Nat} (hi : i < ps.length) : sumP (outF ps i) = sumP ps - (ps.getD i (0, 0)).2 := by
 have e := congrArg sumP (outF_split hi)
 rw [sumP_append, sumP_cons] at e
 unfold outF
 rw [sumP_append]
 omega
theorem outF_length {ps : List (Int × Int)} {i : Nat} (hi : i < ps.length) : (outF ps i).length = ps.length - 1 := by
 unfold outF
 rw [List.length_append, List.length_take, List.length_drop]
 omega
def TakR (b : Nat) (S : List Nat) (most : Int) (ps : List (Int × Int)) (i : Nat) (w : World) (e : Ending) (w' : World) : Prop :=
 e = .returned (.tuple #[.agg #[.int .i64 (ps.getD i (0, 0)).1, .int .u64 (ps.getD i (0, 0)).2], .bool true]) ∧ Strip w' b S most (outF ps i) ∧ Frame S w w'
def TakS (b pb : Nat) (T x y : Int) (W : World) : Prop := W.cell? ⟨b, 2, none⟩ = some (.int .u64 T) ∧ At W pb #[.int .i64 x, .int .u64 y] 247
theorem TakS.one {b pb : Nat} {T x y : Int} {W : World} (h : TakS b pb T x y W) : W.cell? ⟨b, 2, none⟩ = some (.int .u64 T) := h.1
theorem TakS.two {b pb : Nat} {T x y : Int} {W : World} (h : TakS b pb T x y W) : At W pb #[.int .i64 x, .int .u64 y] 247 := h.2
set_option maxRecDepth 100000 in
set_option maxHeartbeats 4000000 in
theorem take_some (b : Nat) (S : List Nat) (most : Int) (ps : List (Int × Int)) (i : Nat) (w : World) (h : Strip w b S most ps) (hi : i < ps.length) :
  Calls Tryz.prog 161 #[.pointer (some ⟨b, 0, none⟩), .int .i64 i] w fun e w' => TakR b S most ps i w e w' := by
 have h0 := h
 obtain ⟨A, c, rfl, hB⟩ := h
 obtain ⟨g, rfl⟩ : ∃ g, A = some ⟨g, 0, none⟩ := by
  rcases hB.own.2 with ⟨_, h0⟩ | ⟨g, cp, cur, h, _⟩
  ·omega
  ·simp only [Value.slice.injEq] at h; exact ⟨g, h.1⟩
 have s1 := hB.at'
 have hl := h0.len
 obtain ⟨g', o, he, hg', hc1, hc2⟩ := hB.own.rd.at' i hi
 cases he
 have HB := Lib.hid hB
 have H0 := Lib.hid h0
 have hlt := hB.gd.pos _ (getD_mem' hi)
 have hsm := sumP_outF hi
 have hs0 := sumP_nonneg (gd_outF hB.gd i).pos
 have hle := hB.sum
 obtain ⟨n, hn⟩ : ∃ n, ps.length = n := ⟨_, rfl⟩
 obtain ⟨T, hT⟩ : ∃ T, sumP ps = T := ⟨_, rfl⟩
 obtain ⟨x, hx⟩ : ∃ x, (ps.getD i (0, 0)).1 = x := ⟨_, rfl⟩
 obtain ⟨y, hy⟩ : ∃ y, (ps.getD i (0, 0)).2 = y := ⟨_, rfl⟩
 have HI := Lib.hid hi
 rw [hn, hT] at s1
 rw [hn] at hl hi
 rw [hx] at hc1
 rw [hy] at hc2 hlt hsm
 rw [hT] at hsm hle
 have HN := Lib.hid (And.intro hn (And.intro hT (And.intro hx hy)))
 have HSM := Lib.hid hsm
 rw [hsm] at hs0
 have hbg : b ≠ g := fun e => hB.ne (by simp [blk, e])
 rw [Nat.zero_add] at hc1 hc2
 obtain ⟨B, hBe⟩ : ∃ B, w.heap.size = B := ⟨_, rfl⟩
 have l1 := s1.lt
 have f1 := s1.three
 have f2 := (s1.alloc (.cells #[.int .i64 0, .int .u64 0] 247)).three
 have hc1' := (Below.refl w.heap.size w).alloc (Nat.le_refl _) (.cells #[.int .i64 0, .int .u64 0] 247) |> fun k => cellB k hg' hc1
 have hc2' := (Below.refl w.heap.size w).alloc (Nat.le_refl _) (.cells #[.int .i64 0, .int .u64 0] 247) |> fun k => cellB k hg' hc2
 have k0 : (0 : Int) ≤ i := by omega
 have k1 : (i : Int) < n := by omega
 have n0 : ((n : Int) == 0) = false := beq_eq_false_iff_ne.2 (by omega)
 have v1 : IntKind.i64.wrap ((i : Int) + 1) = ((i + 1 : Nat) : Int) := by simp only [IntKind.wrap_i64]; omega
 have v2 : IntKind.u64.wrap (T - y) = T - y := by simp only [IntKind.wrap_u64]; omega
 clear hB h0 hn hT hx hy hi hsm hs0 hle hlt hl hc1 hc2
 go_enter Tryz.func161, Tryz.ntmps161
 go_wp2
 refine gen_world (fun W => Hid (Below w.heap.size w W ∧ At W (B + 1) #[.int .i64 x, .int .u64 y] 247 ∧ At W B #[.int .i64 0, .int .u64 0] 247)) ?_ ?_
 ·subst hBe
  exact ⟨(by repeat (first | with_reducible assumption | with_reducible exact Below.refl _ _ | with_reducible refine Below.drew ?_ | with_reducible refine Below.drewN ?_ _ | with_reducible refine Below.setCell ?_ (by first | omega | (simp; done) | (simp; omega)) _ | with_reducible refine Below.alloc ?_ (by first | omega | (simp; done) | (simp; omega) | (simp [World.setCell]; omega)) _)), At.new' _ _ _ (by simp), (At.new' _ _ _ rfl).alloc _⟩
 rintro W HW
 have hBW := HW.out.1
 have sW := (s1.below hBW).drew
 have pW := HW.out.2.1.drew
 have rW := HW.out.2.2.drew
 have hgB : g < B := by rw [← hBe]; exact hg'
 have hbB : b < B := by rw [← hBe]; exact l1
 have HBE := Lib.hid hBe
 have HD : Hid (Calls Tryz.prog 162 #[.slice (some ⟨g, 0, none⟩) n c, .int .i64 i, .int .i64 ((i + 1 : Nat) : Int)] W.drew fun e w' => e = .returned (.slice (some ⟨g, 0, none⟩) (n - 1) c) ∧ At w' b #[.int .i64 most, .slice (some ⟨g, 0, none⟩) n c, .int .u64 T] 214 ∧ At w' (B + 1) #[.int .i64 x, .int .u64 y] 247 ∧ At w' B #[.int .i64 0, .int .u64 0] 247 ∧
   Hid (TakR b (b :: blk (some ⟨g, 0, none⟩)) most ps i w (.returned (.tuple #[.agg #[.int .i64 x, .int .u64 y], .bool true])) ((((w'.setCell ⟨b, 1, none⟩ (.slice (some ⟨g, 0, none⟩) (n - 1) c)).setCell ⟨b, 2, none⟩ (.int .u64 (T - y))).setCell ⟨B, 0, none⟩ (.int .i64 x)).setCell ⟨B, 1, none⟩ (.int .u64 y)))) := by
  have hd := delete_any 0 g c i ps W.drew ((HB.out.own.below hBW).below (Below.refl _ _).drew) HI.out (by rw [HN.out.1]; have := H0.out.len; rw [HN.out.1] at this; omega)
  rw [HN.out.1] at hd
  refine hd.mono ?_
  rintro e w' ⟨rfl, ho, hf⟩
  rw [HN.out.1]
  have a1 := hf.at sW (by simp; exact hbg)
  have a2 := hf.at pW (by simp; omega)
  have a3 := hf.at rW (by simp; omega)
  refine ⟨rfl, a1, a2, a3, by rw [HN.out.2.2.1, HN.out.2.2.2], ?_, ?_⟩
  ·have hlen : (outF ps i).length = n - 1 := by rw [outF_length HI.out, HN.out.1]
   refine ⟨some ⟨g, 0, none⟩, c, rfl, ?_, ?_, HB.out.ne, gd_outF HB.out.gd i, fun z hz => HB.out.ok z (outF_mem hz), ?_, ?_, HB.out.most1⟩
   ·rw [hlen, HSM.out]
    exact (((a1.set_any 1 _ rfl).set_any 2 _ rfl).set_other (by show b ≠ B; omega) _).set_other (by show b ≠ B; omega) _
   ·exact ((((ho.frame (Frame.set [b] _ b 1 _ (by simp)) (fun k hk e => by simp [blk] at hk e; omega)).frame (Frame.set [b] _ b 2 _ (by simp)) (fun k hk e => by simp [blk] at hk e; omega)).frame (Frame.set [B] _ B 0 _ (by simp)) (fun k hk e => by simp [blk] at hk e; omega)).frame (Frame.set [B] _ B 1 _ (by simp)) (fun k hk e => by simp [blk] at hk e; omega))
   ·rw [HSM.out]
    have := HB.out.sum
    rw [HN.out.2.1] at this
    have := HB.out.gd.pos _ (getD_mem' HI.out)
    rw [HN.out.2.2.2] at this
    omega
   ·have := HB.out.len
    rw [HN.out.1] at this
    rw [hlen]
    omega
  ·have e0 := HBE.out
   have F0 : Frame (b :: blk (some ⟨g, 0, none⟩)) w w' := (Frame.of_below hBW).trans (hf.of_drew.mono fun k hk => by simp at hk; simp [blk, hk])
   exact (((F0.setc (.inl (by simp)) 1 _).setc (.inl (by simp)) 2 _).setc (.inr (by omega)) 0 _).setc (.inr (by omega)) 1 _
 have fW := sW.three
 have fp := pW.two
 have TK : TakS b (B + 1) T x y W.drew := ⟨fW.2.2.1, pW⟩
 have HA1 := Lib.hid sW
 clear f1 f2 hc1' hc2' s1 hBW HW H0 HI rW
 refine wp_region_noPanic ?_
 refine wp_region_until (S := HeldS (TakS b (B + 1) T x y)) 22 (by kernel_rfl) ?_
 obtain ⟨W0, hW0⟩ : ∃ W0, W.drew = W0 := ⟨_, rfl⟩
 rw [hW0] at HD fW fp TK ⊢
 have hHeld : HeldS (TakS b (B + 1) T x y) W0 := HeldS.mk' TK
 have hne : Nonempty (Held (TakS b (B + 1) T x y)) := ⟨⟨W0, TK⟩⟩
 have hneF : Nonempty (Held fun _ => True) := ⟨⟨W0, trivial⟩⟩
 have hfar1 := fun z : Held (TakS b (B + 1) T x y) => z.held.one
 have hfar2 := fun z : Held (TakS b (B + 1) T x y) => z.held.two.two
 clear hW0 sW pW HA1
 refine runV [5, 1, 3, 1, 3, 1, 1] 11 hHeld ?_
 simp only [runL, runN, runOps_true, runOps_false, runOps_nil]
 repeat go_big_quiet_step (fail)
 refine wpQuiet_nil ?_
 refine runW [0, 13, 1, 1, 1] 9 hHeld ?_
 simp only [runL, runN, runOps_true, runOps_false, runOps_nil]
 repeat go_big_quiet_step (fail)
 refine wpQuiet_nil ?_
 refine runV [0, 16, 1] 8 hHeld ?_
 simp only [runL, runN, runOps_true, runOps_false, runOps_nil]
 repeat go_big_quiet_step (fail)
 refine wpQuiet_nil ?_
 clear hfar1 hfar2 hne hneF
 refine readyU 5 fun K hK => ?_
 go_simp
 go_wp2
 refine hK.out _ _ (fun _ => hHeld) ?_
 clear hK K
 refine readyU 9 fun K hK => ?_
 go_simp
 go_wp2_with (go_at_call 162; refine HD.out.mono ?_)
 rintro e w4 ⟨rfl, a1, a2, a3, HR⟩
 refine hK.out _ _ (fun _ => HeldS.mk' ⟨a1.three.2.2.1, a2⟩) ?_
 have hHeld1 : HeldS (TakS b (B + 1) T x y) w4 := HeldS.mk' ⟨a1.three.2.2.1, a2⟩
 have hHeld2 : HeldS (TakS b (B + 1) T x y) (w4.setCell ⟨b, 1, none⟩ (.slice (some ⟨g, 0, none⟩) (n - 1) c)) := HeldS.mk' ⟨(a1.set_any 1 _ rfl).three.2.2.1, a2.set_other (by show B + 1 ≠ b; omega) _⟩
 have t1 := a1.three
 have u1 : At (w4.setCell ⟨b, 1, none⟩ (.slice (some ⟨g, 0, none⟩) (n - 1) c)) b _ _ := a1.set_any 1 _ rfl
 have u2 : At (w4.setCell ⟨b, 1, none⟩ (.slice (some ⟨g, 0, none⟩) (n - 1) c)) (B + 1) _ _ := a2.set_other (by show B + 1 ≠ b; omega) _
 have u3 : At (w4.setCell ⟨b, 1, none⟩ (.slice (some ⟨g, 0, none⟩) (n - 1) c)) B _ _ := a3.set_other (by show B ≠ b; omega) _
 have v2 := u2.set_other (p := ⟨b, 2, none⟩) (by show B + 1 ≠ b; omega) (.int .u64 (T - y))
 have v3 := u3.set_other (p := ⟨b, 2, none⟩) (by show B ≠ b; omega) (.int .u64 (T - y))
 have x4 := ((v3.set_any 0 (.int .i64 x) rfl).set_any 1 (.int .u64 y) rfl).two
 have x1 := u1.three
 have x2 := v2.two
 have x3 := v3.two
 clear hK K HD fW fp TK hHeld a1 a2 a3 u1 u2 u3 v2 v3
 refine readyU 17 fun K hK => ?_
 go_simp
 refine hK.out _ _ (fun _ => hHeld1) ?_
 clear hK K
 refine readyU 18 fun K hK => ?_
 go_simp
 refine hK.out _ _ (fun _ => hHeld1) ?_
 clear hK K
 refine readyU 19 fun K hK => ?_
 go_simp
 go_wp2
 refine hK.out _ _ (fun _ => hHeld2) ?_
 clear hK K
 refine readyU 20 fun K hK => ?_
 go_simp
 refine hK.out _ _ (fun _ => hHeld2) ?_
 clear hK K
 refine readyU 21 fun K hK => ?_
 go_simp
 refine hK.out _ _ (fun _ => hHeld2) ?_
 clear hK K
 refine readyU 22 fun K hK => ?_
 go_simp
 go_wp2
 refine hK.out _ _ (fun h => late_no h (by kernel_rfl)) ?_
 clear hK K hHeld1 hHeld2
 refine wpAnyU_done (by kernel_rfl) ?_ _
 refine NoPanic.normal ?_
 go_wp2
 exact bodyPost_ret (v := .tuple #[.agg #[.int .i64 x, .int .u64 y], .bool true]) (by simp only [results, Tryz.f161]; simp [go_sem, x4]) rfl HR.out
theorem take_empty (b : Nat) (S : List Nat) (most : Int) (i : Int) (w : World) (h : Strip w b S most []) :
  Calls Tryz.prog 161 #[.pointer (some ⟨b, 0, none⟩), .int .i64 i] w fun e w' => e = .returned (.tuple #[.agg #[.int .i64 0, .int .u64 0], .bool false]) ∧ Below w.heap.size w w' := by
 obtain ⟨A, c, rfl, hB⟩ := h
 have f1 := hB.at'.three
 have l1 := hB.at'.lt
 clear hB
 go_enter Tryz.func161, Tryz.ntmps161
 go_wp2
 have a1 := At.new w #[.int .i64 0, .int .u64 0] 247
 have x4 := ((a1.set_any 0 (.int .i64 0) rfl).set_any 1 (.int .u64 0) rfl).two
 exact bodyPost_ret (v := .tuple #[.agg #[.int .i64 0, .int .u64 0], .bool false]) (by simp only [results, Tryz.f161]; simp [go_sem, x4]) rfl ⟨rfl, (by repeat (first | with_reducible assumption | with_reducible exact Below.refl _ _ | with_reducible refine Below.drew ?_ | with_reducible refine Below.drewN ?_ _ | with_reducible refine Below.setCell ?_ (by first | omega | (simp; done) | (simp; omega)) _ | with_reducible refine Below.alloc ?_ (by first | omega | (simp; done) | (simp; omega) | (simp [World.setCell]; omega)) _))⟩
end Go.Proofs.YtlbnlmhcpephbaaGreatDoor
namespace Go.Proofs.YtlbnlmhcpephbaaGreatDoor
open Go.RowKit
def outV (ps : List (Int × Int)) (i : Nat) : Value := if ps.length = 0 then .tuple #[.agg #[.int .i64 0, .int .u64 0], .bool false] else .tuple #[.agg #[.int .i64 (ps.getD i (0, 0)).1, .int .u64 (ps.getD i (0, 0)).2], .bool true]
def outR (b : Nat) (S : List Nat) (most : Int) (ps : List (Int × Int)) (i : Nat) (w : World) (e : Ending) (w' : World) : Prop :=
 e = .returned (outV ps i) ∧ Strip w' b S most (if ps.length = 0 then ps else outF ps i) ∧ Frame S w w'
theorem outR_some {b : Nat} {S : List Nat} {most : Int} {ps : List (Int × Int)} {i : Nat} {w w' : World} (h : ps.length ≠ 0) (h1 : Strip w' b S most (outF ps i)) (h2 : Frame S w w') :
  outR b S most ps i w (.returned (.tuple #[.agg #[.int .i64 (ps.getD i (0, 0)).1, .int .u64 (ps.getD i (0, 0)).2], .bool true])) w' := ⟨by unfold outV; rw [if_neg h], by rw [if_neg h]; exact h1, h2⟩
theorem outR_none {b : Nat} {S : List Nat} {most : Int} {ps : List (Int × Int)} {i : Nat} {w w' : World} (h : ps.length = 0) (h1 : Strip w' b S most ps) (h2 : Frame S w w') :
  outR b S most ps i w (.returned (.tuple #[.agg #[.int .i64 0, .int .u64 0], .bool false])) w' := ⟨by unfold outV; rw [if_pos h], by rw [if_pos h]; exact h1, h2⟩
set_option maxRecDepth 100000 in
theorem sfirst_any (b : Nat) (S : List Nat) (most : Int) (ps : List (Int × Int)) (w : World) (h : Strip w b S most ps) :
  Calls Tryz.prog 157 #[.pointer (some ⟨b, 0, none⟩)] w fun e w' => outR b S most ps 0 w e w' := by
 obtain ⟨n, hn⟩ : ∃ n, ps.length = n := ⟨_, rfl⟩
 have HN := Lib.hid hn
 have H := Lib.hid (h.below ((Below.refl w.heap.size w).alloc (Nat.le_refl _) (.cells #[.int .i64 0, .int .u64 0] 247)))
 have H0 := Lib.hid h
 clear hn h
 go_enter Tryz.func157, Tryz.ntmps157
 go_wp2_with fail
 have a1 := At.new w #[.int .i64 0, .int .u64 0] 247
 have a2 := a1.lt
 by_cases h0 : n = 0
 ·have hp : ps = [] := List.eq_nil_of_length_eq_zero (by rw [HN.out]; exact h0)
  have h1 := H.out
  rw [hp] at h1
  refine (take_empty b S most 0 _ h1).mono ?_
  rintro e w1 ⟨rfl, hb⟩
  clear h1
  have a3 := a1.below hb
  have f3 := a3.two
  have HR : Hid (outR b S most ps 0 w (.returned (.tuple #[.agg #[.int .i64 0, .int .u64 0], .bool false])) ((w1.setCell ⟨w.heap.size, 0, none⟩ (.int .i64 0)).setCell ⟨w.heap.size, 1, none⟩ (.int .u64 0))) := by
   have hb2 : Below w.heap.size w ((w1.setCell ⟨w.heap.size, 0, none⟩ (.int .i64 0)).setCell ⟨w.heap.size, 1, none⟩ (.int .u64 0)) := ((keep1 ((Below.refl _ _).alloc (Nat.le_refl _) _) hb).setCell (Nat.le_refl _) _).setCell (Nat.le_refl _) _
   exact outR_none (by rw [HN.out]; exact h0) (H0.out.below hb2) (Frame.of_below hb2)
  clear hb a1
  go_wp2
  have x4 := ((a3.set_any 0 (.int .i64 0) rfl).set_any 1 (.int .u64 0) rfl).two
  exact bodyPost_ret (v := .tuple #[.agg #[.int .i64 0, .int .u64 0], .bool false]) (by simp only [results, Tryz.f157]; simp [go_sem, x4]) rfl HR.out
 ·have hlt : (0 : Nat) < ps.length := by rw [HN.out]; omega
  refine (take_some b S most ps 0 _ H.out hlt).mono ?_
  rintro e w1 ⟨rfl, hS, hf⟩
  have a3 := hf.at a1 (fun hm => by have := H0.out.lt _ hm; omega)
  have f3 := a3.two
  obtain ⟨x, hx⟩ : ∃ x, (ps.getD 0 (0, 0)).1 = x := ⟨_, rfl⟩
  obtain ⟨y, hy⟩ : ∃ y, (ps.getD 0 (0, 0)).2 = y := ⟨_, rfl⟩
  have HR : Hid (outR b S most ps 0 w (.returned (.tuple #[.agg #[.int .i64 x, .int .u64 y], .bool true])) ((w1.setCell ⟨w.heap.size, 0, none⟩ (.int .i64 x)).setCell ⟨w.heap.size, 1, none⟩ (.int .u64 y))) := by
   subst hx hy
   refine outR_some (by omega) ((hS.frame (Frame.set [w.heap.size] _ _ 0 _ (by simp)) (fun k hk e => ?_)).frame (Frame.set [w.heap.size] _ _ 1 _ (by simp)) (fun k hk e => ?_)) ?_
   ·simp at e; have := H0.out.lt k hk; omega
   ·simp at e; have := H0.out.lt k hk; omega
   ·exact (((Frame.of_below ((Below.refl _ _).alloc (Nat.le_refl _) _)).trans hf).setc (.inr (Nat.le_refl _)) 0 _).setc (.inr (Nat.le_refl _)) 1 _
  rw [hx, hy]
  clear hS hf hx hy hlt a1
  go_wp2
  have x4 := ((a3.set_any 0 (.int .i64 x) rfl).set_any 1 (.int .u64 y) rfl).two
  exact bodyPost_ret (v := .tuple #[.agg #[.int .i64 x, .int .u64 y], .bool true]) (by simp only [results, Tryz.f157]; simp [go_sem, x4]) rfl HR.out
set_option maxRecDepth 100000 in
theorem slast_any (b : Nat) (S : List Nat) (most : Int) (ps : List (Int × Int)) (w : World) (h : Strip w b S most ps) :
  Calls Tryz.prog 156 #[.pointer (some ⟨b, 0, none⟩)] w fun e w' => outR b S most ps (ps.length - 1) w e w' := by
 obtain ⟨n, hn⟩ : ∃ n, ps.length = n := ⟨_, rfl⟩
 have HN := Lib.hid hn
 have H := Lib.hid (h.below ((Below.refl w.heap.size w).alloc (Nat.le_refl _) (.cells #[.int .i64 0, .int .u64 0] 247)))
 have H0 := Lib.hid h
 obtain ⟨A, c, hat⟩ : ∃ A c, At w b #[.int .i64 most, .slice A n c, .int .u64 (sumP ps)] 214 := by
  obtain ⟨A, c, _, hB⟩ := h
  exact ⟨A, c, by rw [← hn]; exact hB.at'⟩
 have f1 := hat.three
 have l1 := hat.lt
 have hln := h.len
 rw [hn] at hln
 have HI : Hid (outR b S most ps (ps.length - 1) w = outR b S most ps (n - 1) w) := by show _ = _; rw [hn]
 simp only [HI.out]
 clear hn h hat
 go_enter Tryz.func156, Tryz.ntmps156
 have a1 := At.new w #[.int .i64 0, .int .u64 0] 247
 have a2 := a1.lt
 by_cases h0 : n = 0
 ·have hp : ps = [] := List.eq_nil_of_length_eq_zero (by rw [HN.out]; exact h0)
  have h1 := H.out
  rw [hp] at h1
  have HLn := Lib.hid hln
  clear hln
  go_wp2_with fail
  refine (take_empty b S most _ _ h1).mono ?_
  rintro e w1 ⟨rfl, hb⟩
  clear h1
  have a3 := a1.below hb
  have f3 := a3.two
  have HR : Hid (outR b S most ps (n - 1) w (.returned (.tuple #[.agg #[.int .i64 0, .int .u64 0], .bool false])) ((w1.setCell ⟨w.heap.size, 0, none⟩ (.int .i64 0)).setCell ⟨w.heap.size, 1, none⟩ (.int .u64 0))) := by
   have hb2 : Below w.heap.size w ((w1.setCell ⟨w.heap.size, 0, none⟩ (.int .i64 0)).setCell ⟨w.heap.size, 1, none⟩ (.int .u64 0)) := ((keep1 ((Below.refl _ _).alloc (Nat.le_refl _) _) hb).setCell (Nat.le_refl _) _).setCell (Nat.le_refl _) _
   exact outR_none (by rw [HN.out]; exact h0) (H0.out.below hb2) (Frame.of_below hb2)
  clear hb a1
  go_wp2
  have x4 := ((a3.set_any 0 (.int .i64 0) rfl).set_any 1 (.int .u64 0) rfl).two
  exact bodyPost_ret (v := .tuple #[.agg #[.int .i64 0, .int .u64 0], .bool false]) (by simp only [results, Tryz.f156]; simp [go_sem, x4]) rfl HR.out
 ·have hlt : n - 1 < ps.length := by rw [HN.out]; omega
  have hi : IntKind.i64.wrap ((n : Int) - 1) = ((n - 1 : Nat) : Int) := by simp only [IntKind.wrap_i64]; omega
  go_wp2_with fail
  refine (take_some b S most ps (n - 1) _ H.out hlt).mono ?_
  rintro e w1 ⟨rfl, hS, hf⟩
  have a3 := hf.at a1 (fun hm => by have := H0.out.lt _ hm; omega)
  have f3 := a3.two
  obtain ⟨x, hx⟩ : ∃ x, (ps.getD (n - 1) (0, 0)).1 = x := ⟨_, rfl⟩
  obtain ⟨y, hy⟩ : ∃ y, (ps.getD (n - 1) (0, 0)).2 = y := ⟨_, rfl⟩
  have HR : Hid (outR b S most ps (n - 1) w (.returned (.tuple #[.agg #[.int .i64 x, .int .u64 y], .bool true])) ((w1.setCell ⟨w.heap.size, 0, none⟩ (.int .i64 x)).setCell ⟨w.heap.size, 1, none⟩ (.int .u64 y))) := by
   subst hx hy
   refine outR_some (by omega) ((hS.frame (Frame.set [w.heap.size] _ _ 0 _ (by simp)) (fun k hk e => ?_)).frame (Frame.set [w.heap.size] _ _ 1 _ (by simp)) (fun k hk e => ?_)) ?_
   ·simp at e; have := H0.out.lt k hk; omega
   ·simp at e; have := H0.out.lt k hk; omega
   ·exact (((Frame.of_below ((Below.refl _ _).alloc (Nat.le_refl _) _)).trans hf).setc (.inr (Nat.le_refl _)) 0 _).setc (.inr (Nat.le_refl _)) 1 _
  rw [hx, hy]
  clear hS hf hx hy hlt a1
  go_wp2
  have x4 := ((a3.set_any 0 (.int .i64 x) rfl).set_any 1 (.int .u64 y) rfl).two
  exact bodyPost_ret (v := .tuple #[.agg #[.int .i64 x, .int .u64 y], .bool true]) (by simp only [results, Tryz.f156]; simp [go_sem, x4]) rfl HR.out
end Go.Proofs.YtlbnlmhcpephbaaGreatDoor
namespace Go.Proofs.YtlbnlmhcpephbaaGreatDoor
open Go.RowKit
def FndI (ps : List (Int × Int)) (t : Int) (i : Nat) (r : Int) : Prop := 0 < r ∧ r ≤ sumP (ps.drop i) ∧ ∃ s, 0 ≤ s ∧ t = s + r ∧ s + sumP (ps.drop i) ≤ 9223372036854775807 ∧ findP t 0 ps = findP t s (ps.drop i)
theorem FndI.lt {ps : List (Int × Int)} {t r : Int} {i : Nat} (h : FndI ps t i r) : i < ps.length := by
 rcases Nat.lt_or_ge i ps.length with h1 | h1
 ·exact h1
 ·have := h.2.1
  rw [List.drop_of_length_le h1, sumP_nil] at this
  have := h.1
  omega
theorem FndI.here {ps : List (Int × Int)} {t r : Int} {i : Nat} (hg : Gd ps) (h : FndI ps t i r) (hv : r ≤ (ps.getD i (0, 0)).2) : findP t 0 ps = some (ps.getD i (0, 0)).1 := by
 have hl := h.lt
 obtain ⟨h1, h2, s, h3, h4, h5, h6⟩ := h
 have hp := hg.pos _ (getD_mem' hl)
 have hd := sumP_nonneg (ps := ps.drop (i + 1)) (fun x hx => hg.pos x (List.mem_of_mem_drop hx))
 rw [drop_cons hl, sumP_cons] at h5
 rw [h6, drop_cons hl, findP, Int.emod_eq_of_lt (by omega) (by omega), if_pos (by omega)]
theorem FndI.next {ps : List (Int × Int)} {t r : Int} {i : Nat} (hg : Gd ps) (h : FndI ps t i r) (hv : ¬ r ≤ (ps.getD i (0, 0)).2) : FndI ps t (i + 1) (r - (ps.getD i (0, 0)).2) := by
 have hl := h.lt
 obtain ⟨h1, h2, s, h3, h4, h5, h6⟩ := h
 have hp := hg.pos _ (getD_mem' hl)
 have hd := sumP_nonneg (ps := ps.drop (i + 1)) (fun x hx => hg.pos x (List.mem_of_mem_drop hx))
 rw [drop_cons hl, sumP_cons] at h5 h2
 refine ⟨by omega, by omega, s + (ps.getD i (0, 0)).2, by omega, by omega, by omega, ?_⟩
 rw [h6, drop_cons hl, findP, Int.emod_eq_of_lt (by omega) (by omega), if_neg (by omega)]
theorem FndI.zero {ps : List (Int × Int)} {t : Int} (h0 : 0 < t) (h1 : t ≤ sumP ps) (h2 : sumP ps ≤ 9223372036854775807) : FndI ps t 0 t := ⟨h0, h1, 0, by omega, by omega, by simpa using h2, rfl⟩
theorem findP_over : ∀ {ps : List (Int × Int)} {t s : Int}, Gd ps → 0 ≤ s → s + sumP ps < t → s + sumP ps < 18446744073709551616 → findP t s ps = none
  | [], t, s, _, _, _, _ => rfl
  | x :: ps, t, s, hg, h0, h1, h2 => by
    have hx := hg.pos x (by simp)
    have hd := sumP_nonneg hg.tail.pos
    rw [sumP_cons] at h1 h2
    rw [findP, Int.emod_eq_of_lt (by omega) (by omega), if_neg (by omega)]
    exact findP_over hg.tail (by omega) (by omega) (by omega)
set_option maxRecDepth 100000 in
set_option maxHeartbeats 2000000 in
theorem sfind_any (b : Nat) (S : List Nat) (most : Int) (ps : List (Int × Int)) (t : Int) (w : World) (h : Strip w b S most ps) (ht : 0 ≤ t ∧ t < 18446744073709551616) :
  Calls Tryz.prog 220 #[.pointer (some ⟨b, 0, none⟩), .int .u64 t] w fun e w' => e = .returned (optI (findP t 0 ps)) ∧ w = w' := by
 have hl := h.len.2
 have hg := Lib.hid h.gd
 have hsm := h.sum
 obtain ⟨A, c, _, h⟩ := h
 have s1 := h.at'
 have f1 := s1.three
 have HO := Lib.hid h.own.rd
 obtain ⟨n, hn⟩ : ∃ n, ps.length = n := ⟨_, rfl⟩
 obtain ⟨T, hT⟩ : ∃ T, sumP ps = T := ⟨_, rfl⟩
 have HN := Lib.hid hn
 have HT := Lib.hid hT
 rw [hn, hT] at f1
 rw [hT] at hsm
 obtain ⟨ht0, ht1⟩ := ht
 clear hT h s1
 by_cases h0 : t = 0
 ·subst h0
  have HZ := Lib.hid (findP_zero ps 0)
  clear hn hl ht0 ht1 hsm
  go_enter Tryz.func220, Tryz.ntmps220
  go_wp2
  go_step3
  go_wp2
  simp only [Exit.noGoto]
  go_ret2
  exact ⟨by rw [HZ.out]; rfl, rfl⟩
 by_cases h1 : T < t
 ·have h0' : (t == 0) = false := beq_eq_false_iff_ne.2 h0
  have HZ := Lib.hid (findP_over (t := t) (s := 0) hg.out (by omega) (by rw [HT.out]; omega) (by rw [HT.out]; omega))
  clear hn hl ht0 ht1 hsm h0
  go_enter Tryz.func220, Tryz.ntmps220
  go_wp2
  go_step3
  go_wp2
  simp only [Exit.noGoto]
  go_ret2
  exact ⟨by rw [HZ.out]; rfl, rfl⟩
 have h0' : (t == 0) = false := beq_eq_false_iff_ne.2 h0
 have HI := Lib.hid (FndI.zero (ps := ps) (t := t) (by omega) (by rw [HT.out]; omega) (by rw [HT.out]; exact hsm))
 have hlt0 : 0 < n := by have := HI.out.lt; omega
 obtain ⟨g, rfl⟩ : ∃ g, A = some g := by
  obtain ⟨g, o, e, _⟩ := HO.out.at' 0 (by omega)
  exact ⟨⟨g, o, none⟩, e⟩
 have hbnd : Hid (t ≤ 9223372036854775807) := show t ≤ _ by omega
 clear hn h0 ht0 ht1 hsm
 go_enter Tryz.func220, Tryz.ntmps220
 go_wp2
 refine wp_scope_jumps 0 (fun a' w' => ∃ (i : Nat) (r : Int) (u2 u3 u4 u5 u7 u8 u9 u10 u11 u12 u13 u14 u15 u16 u17 u18 u19 u20 u21 u22 u23 u24 u25 u26 u27 u28 u29 u30 u31 u32 u33 u34 u35 u36 u37 u38 u39 u40 u41 u42 u43 u44 u45 u46 u47 u48 u49 u50 : Value), a' = { tmps := #[.pointer (some ⟨b, 0, none⟩), .int .u64 r, u2, u3, u4, u5, .int .i64 i, u7, u8, u9, u10, u11, u12, u13, u14, u15, u16, u17, u18, u19, u20, u21, u22, u23, u24, u25, u26, u27, u28, u29, u30, u31, u32, u33, u34, u35, u36, u37, u38, u39, u40, u41, u42, u43, u44, u45, u46, u47, u48, u49, u50], defers := [] } ∧ Hid (FndI ps t i r) ∧ w = w') (fun a' _ => n - (intOf (a'.tmps.getD 6 undef)).toNat) rfl ?_ ?_
 ·have hlt := hlt0
  obtain ⟨g', o, e, hg', c1, c2⟩ := HO.out.at' 0 (by have := HN.out; omega)
  cases e
  obtain ⟨x, hx⟩ : ∃ x, (ps.getD 0 (0, 0)).1 = x := ⟨_, rfl⟩
  obtain ⟨v, hv⟩ : ∃ v, (ps.getD 0 (0, 0)).2 = v := ⟨_, rfl⟩
  have HX := Lib.hid (And.intro hx hv)
  rw [hx] at c1
  rw [hv] at c2
  rw [Nat.zero_mul, Nat.add_zero] at c1 c2
  have k1 : (0 : Int) < n := by omega
  clear hx hv
  by_cases hle : v < t
  ·have HV := Lib.hid (FndI.next hg.out HI.out (by rw [HX.out.2]; omega))
   have hw : IntKind.u64.wrap (t - v) = t - v := by simp only [IntKind.wrap_u64]; have := hbnd.out; have := hg.out.pos _ (getD_mem' (show 0 < ps.length by rw [HN.out]; exact hlt)); rw [HX.out.2] at this; omega
   clear hlt0 hlt
   go_wp2
   go_step3
   go_wp2
   go_step3
   refine ⟨rfl, ?_⟩
   exact ⟨1, t - v, _, _, _, _, _, _, _, _, _, _, _, _, _, _, _, _, _, _, _, _, _, _, _, _, _, _, _, _, _, _, _, _, _, _, _, _, _, _, _, _, _, _, _, _, _, _, _, _, rfl, by rw [HX.out.2] at HV; exact HV, rfl⟩
  ·have HV := Lib.hid (FndI.here hg.out HI.out (by rw [HX.out.2]; omega))
   clear hlt0 hlt
   go_wp2
   go_step3
   go_wp2
   simp only [Exit.jump]
   go_ret2
   exact ⟨by rw [HV.out, HX.out.1]; rfl, rfl⟩
 ·rintro a' w' ⟨i, r, u2, u3, u4, u5, u7, u8, u9, u10, u11, u12, u13, u14, u15, u16, u17, u18, u19, u20, u21, u22, u23, u24, u25, u26, u27, u28, u29, u30, u31, u32, u33, u34, u35, u36, u37, u38, u39, u40, u41, u42, u43, u44, u45, u46, u47, u48, u49, u50, rfl, HJ, rfl⟩
  have hi : i < n := by have := HJ.out.lt; have := HN.out; omega
  obtain ⟨g', o, e, hg', c1, c2⟩ := HO.out.at' i (by have := HN.out; omega)
  cases e
  obtain ⟨x, hx⟩ : ∃ x, (ps.getD i (0, 0)).1 = x := ⟨_, rfl⟩
  obtain ⟨v, hv⟩ : ∃ v, (ps.getD i (0, 0)).2 = v := ⟨_, rfl⟩
  have HX := Lib.hid (And.intro hx hv)
  rw [hx] at c1
  rw [hv] at c2
  have k0 : (0 : Int) ≤ i := by omega
  have k1 : (i : Int) < n := by omega
  clear hx hv
  by_cases hle : v < r
  ·have HV := Lib.hid (FndI.next hg.out HJ.out (by rw [HX.out.2]; omega))
   have hw : IntKind.u64.wrap (r - v) = r - v := by
    simp only [IntKind.wrap_u64]
    have h1 := hbnd.out
    have h2 := hg.out.pos _ (getD_mem' (show i < ps.length by rw [HN.out]; exact hi))
    rw [HX.out.2] at h2
    obtain ⟨_, _, s, hs, h3, _⟩ := HJ.out
    omega
   have hw2 : IntKind.i64.wrap ((i : Int) + 1) = ((i + 1 : Nat) : Int) := by simp only [IntKind.wrap_i64]; have := HN.out; omega
   clear hlt0
   go_wp2
   go_step3
   refine ⟨rfl, ?_, ?_⟩
   ·exact ⟨i + 1, r - v, _, _, _, _, _, _, _, _, _, _, _, _, _, _, _, _, _, _, _, _, _, _, _, _, _, _, _, _, _, _, _, _, _, _, _, _, _, _, _, _, _, _, _, _, _, _, _, _, rfl, by rw [HX.out.2] at HV; exact HV, rfl⟩
   ·simp [intOf]; omega
  ·have HV := Lib.hid (FndI.here hg.out HJ.out (by rw [HX.out.2]; omega))
   clear hlt0
   go_wp2
   simp only [Exit.jump]
   go_ret2
   exact ⟨by rw [HV.out, HX.out.1]; rfl, rfl⟩
end Go.Proofs.YtlbnlmhcpephbaaGreatDoor
namespace Go.Proofs.YtlbnlmhcpephbaaGreatDoor
open Go.RowKit
end Go.Proofs.YtlbnlmhcpephbaaGreatDoor

namespace Go.Proofs.YtlbnlmhcpephbaaGreatDoor
open Go.RowKit
def upV (l : List (Int × Int)) (x : Int) : Int := sumP (l.filter fun v => decide (v.1 ≤ x))
def lowV (a : Int) (l : List (Int × Int)) : Int := l.foldl (fun m v => min m v.1) a
def highV (a : Int) (l : List (Int × Int)) : Int := l.foldl (fun m v => max m v.1) a
theorem lowV_take (a : Int) (l : List (Int × Int)) (k : Nat) (hk : k < l.length) : lowV a (l.take (k + 1)) = min (lowV a (l.take k)) (l[k]'hk).1 := by
 unfold lowV; rw [List.take_succ_eq_append_getElem hk, List.foldl_append]; rfl
theorem highV_take (a : Int) (l : List (Int × Int)) (k : Nat) (hk : k < l.length) : highV a (l.take (k + 1)) = max (highV a (l.take k)) (l[k]'hk).1 := by
 unfold highV; rw [List.take_succ_eq_append_getElem hk, List.foldl_append]; rfl
theorem vsum_filter {l : List (Int × Int)} (h : ∀ x ∈ l, 0 < x.2) (p : Int × Int → Bool) : 0 ≤ sumP (l.filter p) ∧ sumP (l.filter p) ≤ sumP l := by
  induction l with
  | nil => exact ⟨Int.le_refl _, Int.le_refl _⟩
  | cons x l ih =>
    have h1 := ih fun y hy => h y (by simp [hy])
    have h2 := h x (by simp)
    rw [List.filter_cons]
    split
    · unfold sumP at *; simp only [List.map_cons, List.sum_cons]; omega
    · unfold sumP at *; simp only [List.map_cons, List.sum_cons]; omega
theorem vsum_take {l : List (Int × Int)} (h : ∀ x ∈ l, 0 < x.2) (k : Nat) : 0 ≤ sumP (l.take k) ∧ sumP (l.take k) ≤ sumP l := by
 have e : sumP l = sumP (l.take k) + sumP (l.drop k) := by
  conv => lhs; rw [← List.take_append_drop k l]
  unfold sumP
  rw [List.map_append, List.sum_append]
 have h1 := vsum_filter (l := l.take k) (fun x hx => h x (List.mem_of_mem_take hx)) (fun _ => true)
 have h2 := vsum_filter (l := l.drop k) (fun x hx => h x (List.mem_of_mem_drop hx)) (fun _ => true)
 omega
theorem up_any (A : Option Addr) (len cap : Nat) (l : List (Int × Int)) (x : Int) (w : World) (hl : l.length = len) (hm : len ≤ 1048576) (hR : RdP w A l) (h : ∀ x ∈ l, 0 < x.2) (hs : sumP l ≤ 9223372036854775807) :
  Calls Tryz.prog 11 #[.slice A len cap, .int .i64 x] w fun e w' => e = .returned (.int .u64 (upV l x)) ∧ Below w.heap.size w w' := by
 have HR := Lib.hid hR
 have H := Lib.hid h
 have HS := Lib.hid hs
 have HL := Lib.hid hl
 clear hR h hs hl
 go_enter Tryz.func11, Tryz.ntmps11
 go_wp2
 go_loopw [5, 7, 10] (fun n _ i wr => ∃ k : Nat, ∃ p : Int, k ≤ len ∧ i = .int .i64 k ∧ n = .int .u64 p ∧ 0 ≤ p ∧ Hid (p = upV (l.take k) x) ∧ Below w.heap.size w wr) (fun _ _ i _ => len - (intOf i).toNat)
 case atStart => exact ⟨0, 0, by omega, rfl, rfl, by omega, rfl, Below.refl _ _⟩
 case round =>
  obtain ⟨k, p, hk, rfl, rfl, hp, HP, hB⟩ := hrel
  have zB := hB.size
  by_cases hlt : k < len
  ·obtain ⟨g, o, rfl, hg, c1, c2⟩ := (HR.out.below hB).at k (by have := HL.out; omega)
   have H1 := Lib.hid (sumP_filter_take l (fun v => decide (v.1 ≤ x)) k (by have := HL.out; omega))
   have H2 := Lib.hid (vsum_filter (l := l.take (k + 1)) (fun x hx => H.out x (List.mem_of_mem_take hx)) (fun v => decide (v.1 ≤ x))).2
   have H3 := Lib.hid (vsum_take H.out (k + 1)).2
   have H4 := Lib.hid (H.out _ (List.getElem_mem (show k < l.length by have := HL.out; omega)))
   obtain ⟨⟨y1, y2⟩, hy⟩ : ∃ y, l[k]'(by have := HL.out; omega) = y := ⟨_, rfl⟩
   rw [hy] at c1 c2 H1 H4
   clear hy HR
   dsimp only at c1 c2 H1 H4
   by_cases ha : y1 ≤ x
   ·rw [if_pos (decide_eq_true ha)] at H1
    have wa : IntKind.u64.wrap (p + y2) = p + y2 := by have h1 := H1.out; have h2 := H2.out; have h3 := HP.out; have h4 := H3.out; have h5 := HS.out; have h6 := H4.out; unfold upV at h3; simp only [IntKind.wrap_u64]; omega
    go_wp2
    go_roundw
    case rel => exact ⟨k + 1, p + y2, by omega, by simp, rfl, by have := H4.out; omega, by have h1 := H1.out; have h2 := HP.out; show _ = _; unfold upV at h2 ⊢; omega, (by repeat (first | with_reducible assumption | with_reducible exact Below.refl _ _ | with_reducible refine Below.drew ?_ | with_reducible refine Below.drewN ?_ _ | with_reducible refine Below.setCell ?_ (by first | omega | (simp; done) | (simp; omega)) _ | with_reducible refine Below.alloc ?_ (by first | omega | (simp; done) | (simp; omega) | (simp [World.setCell]; omega)) _))⟩
    case measure => simp [intOf]; omega
   ·rw [if_neg (by simpa using ha)] at H1
    go_wp2
    go_roundw
    case rel => exact ⟨k + 1, p, by omega, by simp, rfl, hp, by have h1 := H1.out; have h2 := HP.out; show _ = _; unfold upV at h2 ⊢; omega, (by repeat (first | with_reducible assumption | with_reducible exact Below.refl _ _ | with_reducible refine Below.drew ?_ | with_reducible refine Below.drewN ?_ _ | with_reducible refine Below.setCell ?_ (by first | omega | (simp; done) | (simp; omega)) _ | with_reducible refine Below.alloc ?_ (by first | omega | (simp; done) | (simp; omega) | (simp [World.setCell]; omega)) _))⟩
    case measure => simp [intOf]; omega
  ·obtain rfl : k = len := by omega
   have h1 := HP.out
   rw [List.take_of_length_le (by have := HL.out; omega)] at h1
   have H1 := Lib.hid h1
   clear HR HP h1
   go_wp2
   go_ret
   exact ⟨by rw [← H1.out]; rfl, hB⟩
theorem vends_nil (A : Option Addr) (cap : Nat) (w : World) :
  Calls Tryz.prog 23 #[.slice A 0 cap] w fun e w' => e = .returned (.tuple #[.int .i64 0, .int .i64 0, .bool false]) ∧ Below w.heap.size w w' := by
 go_enter Tryz.func23, Tryz.ntmps23
 go_wp2
 go_ret3
 exact ⟨rfl, Below.refl _ _⟩
theorem vends_any (A : Option Addr) (len cap : Nat) (l : List (Int × Int)) (w : World) (hl : l.length = len) (hm : len ≤ 1048576) (h0 : 0 < len) (hR : RdP w A l) :
  Calls Tryz.prog 23 #[.slice A len cap] w fun e w' => e = .returned (.tuple #[.int .i64 (lowV (l.headD (0, 0)).1 l), .int .i64 (highV (l.headD (0, 0)).1 l), .bool true]) ∧ Below w.heap.size w w' := by
 have HR := Lib.hid hR
 have HL := Lib.hid hl
 obtain ⟨g, o, rfl, hg, c1, c2⟩ := hR.at 0 (by omega)
 have he : l[0]'(by omega) = l.headD (0, 0) := by
  cases l with
  | nil => simp at hl; omega
  | cons x l => rfl
 rw [he] at c1
 obtain ⟨a, ha⟩ : ∃ a, (l.headD (0, 0)).1 = a := ⟨_, rfl⟩
 rw [ha] at c1 ⊢
 rw [Nat.zero_mul, Nat.add_zero] at c1
 have hne : ((len : Int) == 0) = false := beq_eq_false_iff_ne.2 (by omega)
 have k1 : (0 : Int) < len := by omega
 clear hR hl c2 he ha
 go_enter Tryz.func23, Tryz.ntmps23
 go_wp2
 clear hne k1 c1
 go_loopw [5, 6, 8, 22] (fun u v _ i wr => ∃ k : Nat, k ≤ len ∧ i = .int .i64 k ∧ u = .int .i64 (lowV a (l.take k)) ∧ v = .int .i64 (highV a (l.take k)) ∧ Below w.heap.size w wr) (fun _ _ _ i _ => len - (intOf i).toNat)
 case atStart => exact ⟨0, by omega, rfl, rfl, rfl, Below.refl _ _⟩
 case round =>
  obtain ⟨k, hk, rfl, rfl, rfl, hB⟩ := hrel
  have zB := hB.size
  by_cases hlt : k < len
  ·obtain ⟨g', o', e, hg', c1, c2⟩ := (HR.out.below hB).at k (by have := HL.out; omega)
   cases e
   have H1 := Lib.hid (lowV_take a l k (by have := HL.out; omega))
   have H2 := Lib.hid (highV_take a l k (by have := HL.out; omega))
   obtain ⟨⟨y1, y2⟩, hy⟩ : ∃ y, l[k]'(by have := HL.out; omega) = y := ⟨_, rfl⟩
   rw [hy] at c1 c2 H1 H2
   clear hy HR
   dsimp only at c1 c2 H1 H2
   go_wp2
   go_roundw
   case rel => exact ⟨k + 1, by omega, by simp, by first | (rw [H1.out]; done) | (rw [H1.out]; first | rfl | (simp only [Value.int.injEq, true_and]; split <;> omega)), by first | (rw [H2.out]; done) | (rw [H2.out]; first | rfl | (simp only [Value.int.injEq, true_and]; split <;> omega)), (by repeat (first | with_reducible assumption | with_reducible exact Below.refl _ _ | with_reducible refine Below.drew ?_ | with_reducible refine Below.drewN ?_ _ | with_reducible refine Below.setCell ?_ (by first | omega | (simp; done) | (simp; omega)) _ | with_reducible refine Below.alloc ?_ (by first | omega | (simp; done) | (simp; omega) | (simp [World.setCell]; omega)) _))⟩
   case measure => simp [intOf]; omega
  ·obtain rfl : k = len := by omega
   have H1 : Hid (l.take k = l) := List.take_of_length_le (by have := HL.out; omega)
   rw [H1.out]
   clear HR H1
   go_wp2
   go_ret3
   exact ⟨rfl, hB⟩
end Go.Proofs.YtlbnlmhcpephbaaGreatDoor

namespace Go.Proofs.YtlbnlmhcpephbaaGreatDoor
open Go.RowKit
theorem lowV_spec : ∀ (l : List (Int × Int)) (a : Int), lowV a l ≤ a ∧ (∀ v ∈ l, lowV a l ≤ v.1) ∧ (lowV a l = a ∨ ∃ v ∈ l, v.1 = lowV a l)
  | [], a => ⟨Int.le_refl _, by simp, .inl rfl⟩
  | x :: l, a => by
    obtain ⟨h1, h2, h3⟩ := lowV_spec l (min a x.1)
    have e : lowV a (x :: l) = lowV (min a x.1) l := rfl
    rw [e]
    refine ⟨by omega, fun v hv => ?_, ?_⟩
    · rcases List.mem_cons.1 hv with rfl | hv
      · omega
      · exact h2 v hv
    · rcases h3 with h3 | ⟨v, hv, h3⟩
      · rcases (show min a x.1 = a ∨ min a x.1 = x.1 by omega) with h | h
        · exact .inl (h3.trans h)
        · exact .inr ⟨x, by simp, by rw [h3, h]⟩
      · exact .inr ⟨v, by simp [hv], h3⟩
theorem highV_spec : ∀ (l : List (Int × Int)) (a : Int), a ≤ highV a l ∧ (∀ v ∈ l, v.1 ≤ highV a l) ∧ (highV a l = a ∨ ∃ v ∈ l, v.1 = highV a l)
  | [], a => ⟨Int.le_refl _, by simp, .inl rfl⟩
  | x :: l, a => by
    obtain ⟨h1, h2, h3⟩ := highV_spec l (max a x.1)
    have e : highV a (x :: l) = highV (max a x.1) l := rfl
    rw [e]
    refine ⟨by omega, fun v hv => ?_, ?_⟩
    · rcases List.mem_cons.1 hv with rfl | hv
      · omega
      · exact h2 v hv
    · rcases h3 with h3 | ⟨v, hv, h3⟩
      · rcases (show max a x.1 = a ∨ max a x.1 = x.1 by omega) with h | h
        · exact .inl (h3.trans h)
        · exact .inr ⟨x, by simp, by rw [h3, h]⟩
      · exact .inr ⟨v, by simp [hv], h3⟩
theorem head_mem {l : List (Int × Int)} (h : l ≠ []) : l.headD (0, 0) ∈ l := by
 cases l with
 | nil => exact absurd rfl h
 | cons x l => simp
def eLow (l : List (Int × Int)) : Int := if l.length = 0 then 0 else lowV (l.headD (0, 0)).1 l
def eHigh (l : List (Int × Int)) : Int := if l.length = 0 then 0 else highV (l.headD (0, 0)).1 l
def eIs (l : List (Int × Int)) : Bool := decide (l.length ≠ 0)
theorem vends_told (A : Option Addr) (len cap : Nat) (l : List (Int × Int)) (w : World) (hl : l.length = len) (hm : len ≤ 1048576) (hR : RdP w A l) :
  Calls Tryz.prog 23 #[.slice A len cap] w fun e w' => e = .returned (.tuple #[.int .i64 (eLow l), .int .i64 (eHigh l), .bool (eIs l)]) ∧ Below w.heap.size w w' := by
 unfold eLow eHigh eIs
 subst hl
 by_cases h0 : l.length = 0
 ·rw [if_pos h0, if_pos h0, h0]
  exact vends_nil A cap w
 ·rw [if_neg h0, if_neg h0, decide_eq_true h0]
  exact vends_any A _ cap l w rfl hm (by omega) hR
theorem eLow_le {l : List (Int × Int)} {v : Int × Int} (hv : v ∈ l) : eLow l ≤ v.1 ∧ v.1 ≤ eHigh l := by
 have hn : l.length ≠ 0 := fun e => by rw [List.eq_nil_of_length_eq_zero e] at hv; simp at hv
 unfold eLow eHigh
 rw [if_neg hn, if_neg hn]
 exact ⟨(lowV_spec l _).2.1 v hv, (highV_spec l _).2.1 v hv⟩
theorem eLow_mem {l : List (Int × Int)} (hn : l ≠ []) : (∃ v ∈ l, v.1 = eLow l) ∧ ∃ v ∈ l, v.1 = eHigh l := by
 have hl : l.length ≠ 0 := fun e => hn (List.eq_nil_of_length_eq_zero e)
 unfold eLow eHigh
 rw [if_neg hl, if_neg hl]
 refine ⟨?_, ?_⟩
 ·rcases (lowV_spec l (l.headD (0, 0)).1).2.2 with h | h
  ·exact ⟨_, head_mem hn, h.symm⟩
  ·exact h
 ·rcases (highV_spec l (l.headD (0, 0)).1).2.2 with h | h
  ·exact ⟨_, head_mem hn, h.symm⟩
  ·exact h
end Go.Proofs.YtlbnlmhcpephbaaGreatDoor
