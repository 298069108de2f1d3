/- Texts of this claim, joined, indents halved: StripAll, CapAll, Good, LowAll, HighAll, Vals. -/
import Derived.Test.YtlbnlmhcpephbaaGreatDoorProg
import Derived.BigQuiet
import Derived.Deep.QuietTactic
import Derived.WalkMore
import Derived.ScopeJumps
import Derived.LoopNIn
import Derived.Test.YtlbnlmhcpephbaaGreatDoorKc4
namespace Go.Proofs.YtlbnlmhcpephbaaGreatDoor
open Go.RowKit
structure StripB (w : World) (b : Nat) (A : Option Addr) (c : Nat) (most : Int) (ps : List (Int × Int)) : Prop where
 at' : At w b #[.int .i64 most, .slice A ps.length c, .int .u64 (sumP ps)] 214
 own : Own2 0 w A c ps
 ne : b ∉ blk A
 gd : Gd ps
 ok : okP ps
 sum : sumP ps ≤ 9223372036854775807
 len : (ps.length : Int) ≤ most
 most1 : most ≤ 4096
def Strip (w : World) (b : Nat) (S : List Nat) (most : Int) (ps : List (Int × Int)) : Prop := ∃ A c, S = b :: blk A ∧ StripB w b A c most ps
section
variable {w w' : World} {b : Nat} {S T : List Nat} {most : Int} {ps : List (Int × Int)}
theorem Own2.frame {base c : Nat} {A : Option Addr} (h : Own2 base w A c ps) (hf : Frame T w w') (hn : ∀ k ∈ blk A, k ∉ T) : Own2 base w' A c ps := by
 obtain ⟨h1, h2⟩ := h
 refine ⟨h1, ?_⟩
 rcases h2 with h2 | ⟨g, cp, cur, e, hg, hc, r⟩
 ·exact .inl h2
 ·refine .inr ⟨g, cp, cur, e, hg, (hf.block g (Array.getElem?_eq_some_iff.1 hc).1 (hn g ?_)).trans hc, r⟩
  simp only [Value.slice.injEq] at e
  rw [e.1]
  simp [blk]
theorem Strip.frame (h : Strip w b S most ps) (hf : Frame T w w') (hn : Apart S T) : Strip w' b S most ps := by
 obtain ⟨A, c, rfl, h⟩ := h
 exact ⟨A, c, rfl, hf.at h.at' (hn b (by simp)), h.own.frame hf (fun k hk => hn k (by simp [hk])), h.ne, h.gd, h.ok, h.sum, h.len, h.most1⟩
theorem Strip.below (h : Strip w b S most ps) (hb : Below w.heap.size w w') : Strip w' b S most ps := h.frame (T := []) (Frame.of_below hb) (fun _ _ => by simp)
theorem Strip.lt (h : Strip w b S most ps) : ∀ k ∈ S, k < w.heap.size := by
 obtain ⟨A, c, rfl, h⟩ := h
 intro k hk
 rcases List.mem_cons.1 hk with rfl | hk
 ·exact h.at'.lt
 ·cases A with
  | none => simp [blk] at hk
  | some a => simp only [blk, List.mem_singleton] at hk; subst hk; exact (h.own.base_le a rfl).2
theorem Strip.gd (h : Strip w b S most ps) : Gd ps := by obtain ⟨A, c, _, h⟩ := h; exact h.gd
theorem Strip.ok (h : Strip w b S most ps) : okP ps := by obtain ⟨A, c, _, h⟩ := h; exact h.ok
theorem Strip.sum (h : Strip w b S most ps) : sumP ps ≤ 9223372036854775807 := by obtain ⟨A, c, _, h⟩ := h; exact h.sum
theorem Strip.len (h : Strip w b S most ps) : (ps.length : Int) ≤ most ∧ ps.length ≤ 4096 := by obtain ⟨A, c, _, h⟩ := h; exact ⟨h.len, by have := h.len; have := h.most1; omega⟩
end
theorem snew_any (most : Int) (w : World) (h1 : 1 ≤ most) (h2 : most ≤ 4096) :
  Calls Tryz.prog 59 #[.int .i64 most] w fun e w' => (∃ b, e = .returned (.tuple #[.pointer (some ⟨b, 0, none⟩), .int .i64 0]) ∧ b = w.heap.size ∧ Strip w' b [b] most []) ∧ Below w.heap.size w w' := by
 have hs : At (w.alloc (.cells #[.int .i64 most, .slice none 0 0, .int .u64 0] 214)) w.heap.size #[.int .i64 most, .slice none 0 0, .int .u64 0] 214 := At.new w _ _
 have HS : Hid (Strip (w.alloc (.cells #[.int .i64 most, .slice none 0 0, .int .u64 0] 214)) w.heap.size [w.heap.size] most []) := ⟨none, 0, rfl, hs, Own2.nil _ _, by simp [blk], Gd.nil, fun x hx => by simp at hx, by rw [sumP_nil]; omega, by simp; omega, h2⟩
 clear hs
 have n1 : ¬ most < 1 := by omega
 have n2 : ¬ 4096 < most := by omega
 clear h1 h2
 go_enter Tryz.func59, Tryz.ntmps59
 go_wp2
 go_ret2
 exact ⟨⟨_, rfl, rfl, HS.out⟩, (by repeat (first | with_reducible assumption | with_reducible exact Below.refl _ _ | with_reducible refine Below.drew ?_ | with_reducible refine Below.drewN ?_ _ | with_reducible refine Below.setCell ?_ (by first | omega | (simp; done) | (simp; omega)) _ | with_reducible refine Below.alloc ?_ (by first | omega | (simp; done) | (simp; omega) | (simp [World.setCell]; omega)) _))⟩
theorem slen_any (b : Nat) (S : List Nat) (most : Int) (ps : List (Int × Int)) (w : World) (h : Strip w b S most ps) :
  Calls Tryz.prog 160 #[.pointer (some ⟨b, 0, none⟩)] w fun e w' => e = .returned (.int .i64 (ps.length : Nat)) ∧ w = w' := by
 obtain ⟨A, c, _, h⟩ := h
 have f1 := h.at'.three
 clear h
 go_enter Tryz.func160, Tryz.ntmps160
 go_wp2
 go_ret
 exact ⟨rfl, rfl⟩
theorem stotal_any (b : Nat) (S : List Nat) (most : Int) (ps : List (Int × Int)) (w : World) (h : Strip w b S most ps) :
  Calls Tryz.prog 106 #[.pointer (some ⟨b, 0, none⟩)] w fun e w' => e = .returned (.int .u64 (sumP ps)) ∧ w = w' := by
 obtain ⟨A, c, _, h⟩ := h
 have f1 := h.at'.three
 clear h
 go_enter Tryz.func106, Tryz.ntmps106
 go_wp2
 go_ret
 exact ⟨rfl, rfl⟩
set_option maxRecDepth 100000 in
theorem sat_any (b : Nat) (S : List Nat) (most : Int) (ps : List (Int × Int)) (q : Int) (w : World) (h : Strip w b S most ps) :
    Calls Tryz.prog 217 #[.pointer (some ⟨b, 0, none⟩), .int .i64 q] w fun e w' => e = .returned (.int .u64 (cnt ps q)) ∧ Below w.heap.size w w' := by
  have hl := h.len.2
  have hg := h.gd
  obtain ⟨A, c, _, h⟩ := h
  have s1 := h.at'
  have f1 := h.at'.three
  have HC := Lib.hid (rfind06_any A c ps.length ps q w rfl h.own.rd hg (by omega))
  have HO := Lib.hid h.own.rd
  have HG := Lib.hid hg
  clear h hg
  obtain ⟨n, hn⟩ : ∃ n, ps.length = n := ⟨_, rfl⟩
  have HN := Lib.hid hn
  rw [hn] at HC s1 f1
  clear hn
  go_enter Tryz.func217, Tryz.ntmps217
  go_wp2_with fail
  refine HC.out.mono ?_
  rintro e w1 ⟨⟨k, f, rfl, hp, hf⟩, hb1⟩
  have f2 := (s1.below hb1).three
  clear f1
  cases f with
  | true =>
    obtain ⟨hk, hq⟩ := hf.1 rfl
    have HV := Lib.hid (posn_found HG.out hp hk hq).2
    obtain ⟨g, o, rfl, hg, hc1, hc2⟩ := (HO.out.below hb1).at' k hk
    obtain ⟨v, hv⟩ : ∃ v, (ps.getD k (0, 0)).2 = v := ⟨_, rfl⟩
    rw [hv] at hc2 HV
    have k0 : (0 : Int) ≤ k := by omega
    have k1 : (k : Int) < n := by have := HN.out; omega
    clear hf hp hq hk hc1 hv
    go_wp2
    go_ret
    exact ⟨by rw [HV.out]; rfl, hb1⟩
  | false =>
    have HV := Lib.hid (posn_none HG.out hp (fun h => by have := hf.2 h; cases this)).2
    clear hf hp
    go_wp2
    go_ret
    exact ⟨by rw [HV.out]; rfl, hb1⟩
def endsV (ps : List (Int × Int)) : Value := if ps.length = 0 then .tuple #[.int .i64 0, .int .i64 0, .bool false] else .tuple #[.int .i64 (ps.getD 0 (0, 0)).1, .int .i64 (ps.getD (ps.length - 1) (0, 0)).1, .bool true]
end Go.Proofs.YtlbnlmhcpephbaaGreatDoor
namespace Go.Proofs.YtlbnlmhcpephbaaGreatDoor
open Go.RowKit
def stRoom (most : Int) (ps : List (Int × Int)) (q cc : Int) : Prop := cc ≤ 9223372036854775807 - sumP ps ∧ ((rowAdd ps q cc).length : Int) ≤ most
instance (most : Int) (ps : List (Int × Int)) (q cc : Int) : Decidable (stRoom most ps q cc) := by unfold stRoom; infer_instance
def stCode (most : Int) (ps : List (Int × Int)) (q cc : Int) : Int := if 0 < cc then (if stRoom most ps q cc then 0 else 6) else 1
def stStep (most : Int) (ps : List (Int × Int)) (q cc : Int) : List (Int × Int) := if 0 < cc ∧ stRoom most ps q cc then rowAdd ps q cc else ps
theorem rowAdd_length {ps : List (Int × Int)} {q cc : Int} {k : Nat} {f : Bool} (hg : Gd ps) (hp : Posn ps q k) (hf : f = true ↔ k < ps.length ∧ (ps.getD k (0, 0)).1 = q) (hc : 0 < cc) (hs : cnt ps q + cc < 18446744073709551616) :
    (rowAdd ps q cc).length = if f = true then ps.length else ps.length + 1 := by
  rw [rowAdd_eq hg hc hs, posn_lt hp]
  cases f with
  | true =>
    obtain ⟨hk, hq⟩ := hf.1 rfl
    rw [(posn_found hg hp hk hq).1, if_pos rfl]
    simp only [List.length_append, List.length_take, List.length_drop, List.length_singleton]
    omega
  | false =>
    rw [(posn_none hg hp (fun h => by have := hf.2 h; cases this)).1, if_neg (by decide)]
    simp only [List.length_append, List.length_take, List.length_drop, List.length_singleton]
    have := hp.le
    omega
def SadR (b : Nat) (S : List Nat) (most : Int) (ps : List (Int × Int)) (q cc : Int) (w : World) (e : Ending) (w' : World) : Prop :=
 e = .returned (.int .i64 (stCode most ps q cc)) ∧ ∃ S', GrownS S S' w.heap.size ∧ Strip w' b S' most (stStep most ps q cc) ∧ Frame S w w'
theorem sadd_zero (b : Nat) (S : List Nat) (most : Int) (ps : List (Int × Int)) (q : Int) (w : World) (h : Strip w b S most ps) :
  Calls Tryz.prog 105 #[.pointer (some ⟨b, 0, none⟩), .int .i64 q, .int .u64 0] w fun e w' => SadR b S most ps q 0 w e w' := by
 have HR : Hid (SadR b S most ps q 0 w (.returned (.int .i64 1)) w) := ⟨by unfold stCode; rw [if_neg (by omega)], S, GrownS.refl _ _, by unfold stStep; rw [if_neg (by omega)]; exact h, Frame.refl _ _⟩
 clear h
 go_enter Tryz.func105, Tryz.ntmps105
 go_wp2
 go_ret
 exact HR.out
set_option maxRecDepth 100000 in
set_option maxHeartbeats 4000000 in
theorem sadd_pos (b : Nat) (S : List Nat) (most : Int) (ps : List (Int × Int)) (q cc : Int) (w : World) (h : Strip w b S most ps) (hc : 0 < cc) (hc' : cc < 18446744073709551616) (hq : -9223372036854775808 ≤ q ∧ q ≤ 9223372036854775807) :
    Calls Tryz.prog 105 #[.pointer (some ⟨b, 0, none⟩), .int .i64 q, .int .u64 cc] w fun e w' => SadR b S most ps q cc w e w' := by
  have h0 := h
  obtain ⟨A, c, rfl, hB⟩ := h
  have s1 := hB.at'
  have hs0 := sumP_nonneg hB.gd.pos
  have hle := cnt_le_sumP hB.gd.pos q
  have hsum := hB.sum
  have hl := h0.len
  have HC := Lib.hid (fun W (hb : Below w.heap.size w W) => rfind06_any A c ps.length ps q W rfl (hB.own.rd.below hb) hB.gd (by omega))
  have HB := Lib.hid hB
  have H0 := Lib.hid h0
  have HQ := Lib.hid hq
  obtain ⟨n, hn⟩ : ∃ n, ps.length = n := ⟨_, rfl⟩
  obtain ⟨T, hT⟩ : ∃ T, sumP ps = T := ⟨_, rfl⟩
  have HN := Lib.hid hn
  have HTT := Lib.hid hT
  rw [hn, hT] at s1
  rw [hn] at HC hl
  rw [hT] at hs0 hle hsum
  have f1 := s1.three
  have hcc : (cc == 0) = false := beq_eq_false_iff_ne.2 (by omega)
  have HCC := Lib.hid (And.intro hc (And.intro hc' (And.intro hs0 (And.intro hle (And.intro hsum hl)))))
  have l1 := s1.lt
  clear hB h0 hn hT hq hc hc' hs0 hle hsum hl
  go_enter Tryz.func105, Tryz.ntmps105
  go_wp2_with fail
  have a1 := At.new w #[.int .u64 T, .int .u64 cc] 23
  refine (plus2_any w.heap.size T cc _ (by have := HCC.out; omega) (by have := HCC.out; omega) (by have := HCC.out; omega) (by have := HCC.out; omega) (a1.cell rfl) (a1.cell rfl)).mono ?_
  rintro e w1 ⟨rfl, rfl⟩
  have hb1 : Below w.heap.size w (w.alloc (.cells #[.int .u64 T, .int .u64 cc] 23)) := (by repeat (first | with_reducible assumption | with_reducible exact Below.refl _ _ | with_reducible refine Below.drew ?_ | with_reducible refine Below.drewN ?_ _ | with_reducible refine Below.setCell ?_ (by first | omega | (simp; done) | (simp; omega)) _ | with_reducible refine Below.alloc ?_ (by first | omega | (simp; done) | (simp; omega) | (simp [World.setCell]; omega)) _))
  obtain ⟨W1, hW1⟩ : ∃ W1, w.alloc (.cells #[.int .u64 T, .int .u64 cc] 23) = W1 := ⟨_, rfl⟩
  rw [hW1] at hb1 ⊢
  have f2 := (s1.below hb1).three
  have hP : T + cc ≤ 9223372036854775807 ∨ ¬ T + cc ≤ 9223372036854775807 := by omega
  clear a1 hW1 f1
  rcases hP with hP | hP
  · obtain ⟨p1, p2⟩ := plus2_yes hP
    rw [p1, p2]
    have HP := Lib.hid hP
    clear p1 p2 hP
    go_wp2_with fail
    refine (HC.out W1 hb1).mono ?_
    rintro e w2 ⟨⟨k, f, rfl, hp, hf⟩, hb⟩
    have hb2 := keep1 hb1 hb
    have s3 := s1.below hb2
    have f3 := s3.three
    have hrl := rowAdd_length (f := f) HB.out.gd hp hf HCC.out.1 (by have := HCC.out; have := HP.out; omega)
    rw [HN.out] at hrl
    clear hb hb1 f2 hp hf
    by_cases hfull : f = false ∧ most ≤ n
    · obtain ⟨rfl, hm⟩ := hfull
      have HR : Hid (∀ m, SadR b (b :: blk A) most ps q cc w (.returned (.int .i64 6)) (w2.drewN m)) := fun m => by
        have hnr : ¬ stRoom most ps q cc := fun h => by have := h.2; rw [hrl, if_neg (by decide)] at this; omega
        exact ⟨by unfold stCode; rw [if_pos HCC.out.1, if_neg hnr], _, GrownS.refl _ _, by unfold stStep; rw [if_neg (fun h => hnr h.2)]; exact H0.out.below (hb2.drewN m), Frame.of_below (hb2.drewN m)⟩
      clear hrl hb2
      go_wp2
      go_quiet (fail)
      go_wp2
      go_ret
      exact HR.out _
    · have hroom : stRoom most ps q cc := by
        refine ⟨by have := HP.out; rw [HTT.out]; omega, ?_⟩
        rw [hrl]
        have := HCC.out
        cases f with
        | true => rw [if_pos rfl]; omega
        | false => rw [if_neg (by decide)]; have : ¬ most ≤ n := fun h => hfull ⟨rfl, h⟩; omega
      have HADD : Hid (∀ m, Calls Tryz.prog 127 #[.slice A n c, .int .i64 q, .int .u64 cc] (w2.drewN m) fun e w' => ∃ A' c' len, e = .returned (.slice A' len c') ∧ Hid (SadR b (b :: blk A) most ps q cc w (.returned (.int .i64 0)) ((w'.setCell ⟨b, 1, none⟩ (.slice A' len c')).setCell ⟨b, 2, none⟩ (.int .u64 (T + cc)))) ∧ At w' b #[.int .i64 most, .slice A n c, .int .u64 T] 214) := fun m => by
        have hbm := hb2.drewN m
        have hs := show cnt ps q + cc < 18446744073709551616 by have := HCC.out; have := HP.out; omega
        have := add06_any 0 A c ps q cc (w2.drewN m) (HB.out.own.below hbm) HB.out.gd (by rw [HN.out]; have := HCC.out; omega) HCC.out.1 hs (Nat.zero_le _)
        rw [HN.out] at this
        refine this.mono ?_
        rintro e w' ⟨A', c', rfl, ho, hfr, hk⟩
        have hat := hfr.at (s1.below hbm) HB.out.ne
        have hbn : b ∉ blk A' := fun hm => by
          rcases hk b hm with h | h
          · exact HB.out.ne h
          · have : b < w.heap.size := s1.lt
            have := hbm.size
            omega
        refine ⟨A', c', _, rfl, ⟨by unfold stCode; rw [if_pos HCC.out.1, if_pos hroom], b :: blk A', fun k hm => ?_, ?_, ?_⟩, hat⟩
        · rcases List.mem_cons.1 hm with rfl | hm
          · exact .inl (by simp)
          · rcases hk k hm with h | h
            · exact .inl (by simp [h])
            · exact .inr (Nat.le_trans hbm.size h)
        · unfold stStep
          rw [if_pos ⟨HCC.out.1, hroom⟩]
          refine ⟨A', c', rfl, ?_, ?_, hbn, HB.out.gd.rowAdd HCC.out.1 hs, okP_rowAdd HB.out.ok HQ.out, by rw [sumP_rowAdd HB.out.gd HCC.out.1 hs, HTT.out]; exact HP.out, hroom.2, HB.out.most1⟩
          · rw [sumP_rowAdd HB.out.gd HCC.out.1 hs, HTT.out]
            exact (hat.set_any 1 _ rfl).set_any 2 _ rfl
          · exact (ho.frame (Frame.set [b] _ b 1 _ (by simp)) (fun k hk e => by simp at e; subst e; exact hbn hk)).frame (Frame.set [b] _ b 2 _ (by simp)) (fun k hk e => by simp at e; subst e; exact hbn hk)
        · exact ((((Frame.of_below hbm).trans (hfr.mono fun k hk => by simp [hk])).setc (.inl (by simp)) 1 _).setc (.inl (by simp)) 2 _)
      have hw1 : ¬ (most ≤ n ∧ f = false) := fun h => hfull ⟨h.2, h.1⟩
      have hl3 := s3.lt
      clear hrl hb2 hroom HP HC
      cases f with
      | true =>
        clear hw1 hfull
        go_wp2
        go_quiet (fail)
        go_wp2_with fail
        refine (HADD.out _).mono ?_
        rintro e w4 ⟨A', c', len, rfl, HR, hat⟩
        have f4 := hat.three
        go_wp2
        go_ret
        exact HR.out
      | false =>
        have hm : (n : Int) < most := by
          rcases Int.lt_or_le n most with h | h
          · exact h
          · exact absurd ⟨rfl, h⟩ hfull
        clear hw1 hfull
        go_wp2
        go_quiet (fail)
        go_wp2_with fail
        refine (HADD.out _).mono ?_
        rintro e w4 ⟨A', c', len, rfl, HR, hat⟩
        have f4 := hat.three
        go_wp2
        go_ret
        exact HR.out
  · obtain ⟨p1, p2⟩ := plus2_no hP
    rw [p1, p2]
    have HP := Lib.hid hP
    clear p1 p2 hP
    go_wp2_with fail
    refine (HC.out W1 hb1).mono ?_
    rintro e w2 ⟨⟨k, f, rfl, hp, hf⟩, hb⟩
    have hb2 := keep1 hb1 hb
    have s3 := s1.below hb2
    have f3 := s3.three
    have HR : Hid (∀ m, SadR b (b :: blk A) most ps q cc w (.returned (.int .i64 6)) (w2.drewN m)) := fun m => by
      have hnr : ¬ stRoom most ps q cc := fun h => by have := h.1; rw [HTT.out] at this; have := HP.out; omega
      exact ⟨by unfold stCode; rw [if_pos HCC.out.1, if_neg hnr], _, GrownS.refl _ _, by unfold stStep; rw [if_neg (fun h => hnr h.2)]; exact H0.out.below (hb2.drewN m), Frame.of_below (hb2.drewN m)⟩
    clear hb hb1 f2 hp hf hb2
    go_wp2
    go_quiet (fail)
    go_wp2
    go_ret
    exact HR.out _
theorem sadd_any (b : Nat) (S : List Nat) (most : Int) (ps : List (Int × Int)) (q cc : Int) (w : World) (h : Strip w b S most ps) (hc : 0 ≤ cc) (hc' : cc < 18446744073709551616) (hq : -9223372036854775808 ≤ q ∧ q ≤ 9223372036854775807) :
  Calls Tryz.prog 105 #[.pointer (some ⟨b, 0, none⟩), .int .i64 q, .int .u64 cc] w fun e w' => SadR b S most ps q cc w e w' := by
 by_cases h0 : cc = 0
 ·subst h0; exact sadd_zero b S most ps q w h
 ·exact sadd_pos b S most ps q cc w h (by omega) hc' hq
end Go.Proofs.YtlbnlmhcpephbaaGreatDoor
namespace Go.Proofs.YtlbnlmhcpephbaaGreatDoor
open Go.RowKit
def outF (ps : List (Int × Int)) (i : Nat) : List (Int × Int) := ps.take i ++ ps.drop (i + 1)
def TakR (b : Nat) (S : List Nat) (most : Int) (ps : List (Int × Int)) (i : Nat) (w : World) (e : Ending) (w' : World) : Prop :=
 e = .returned (.tuple #[.agg #[.int .i64 (ps.getD i (0, 0)).1, .int .u64 (ps.getD i (0, 0)).2], .bool true]) ∧ Strip w' b S most (outF ps i) ∧ Frame S w w'
def TakS (b pb : Nat) (T x y : Int) (W : World) : Prop := W.cell? ⟨b, 2, none⟩ = some (.int .u64 T) ∧ At W pb #[.int .i64 x, .int .u64 y] 247
end Go.Proofs.YtlbnlmhcpephbaaGreatDoor
namespace Go.Proofs.YtlbnlmhcpephbaaGreatDoor
open Go.RowKit
def outV (ps : List (Int × Int)) (i : Nat) : Value := if ps.length = 0 then .tuple #[.agg #[.int .i64 0, .int .u64 0], .bool false] else .tuple #[.agg #[.int .i64 (ps.getD i (0, 0)).1, .int .u64 (ps.getD i (0, 0)).2], .bool true]
def outR (b : Nat) (S : List Nat) (most : Int) (ps : List (Int × Int)) (i : Nat) (w : World) (e : Ending) (w' : World) : Prop :=
 e = .returned (outV ps i) ∧ Strip w' b S most (if ps.length = 0 then ps else outF ps i) ∧ Frame S w w'
end Go.Proofs.YtlbnlmhcpephbaaGreatDoor
namespace Go.Proofs.YtlbnlmhcpephbaaGreatDoor
open Go.RowKit
def FndI (ps : List (Int × Int)) (t : Int) (i : Nat) (r : Int) : Prop := 0 < r ∧ r ≤ sumP (ps.drop i) ∧ ∃ s, 0 ≤ s ∧ t = s + r ∧ s + sumP (ps.drop i) ≤ 9223372036854775807 ∧ findP t 0 ps = findP t s (ps.drop i)
theorem FndI.lt {ps : List (Int × Int)} {t r : Int} {i : Nat} (h : FndI ps t i r) : i < ps.length := by
 rcases Nat.lt_or_ge i ps.length with h1 | h1
 ·exact h1
 ·have := h.2.1
  rw [List.drop_of_length_le h1, sumP_nil] at this
  have := h.1
  omega
theorem FndI.here {ps : List (Int × Int)} {t r : Int} {i : Nat} (hg : Gd ps) (h : FndI ps t i r) (hv : r ≤ (ps.getD i (0, 0)).2) : findP t 0 ps = some (ps.getD i (0, 0)).1 := by
 have hl := h.lt
 obtain ⟨h1, h2, s, h3, h4, h5, h6⟩ := h
 have hp := hg.pos _ (getD_mem' hl)
 have hd := sumP_nonneg (ps := ps.drop (i + 1)) (fun x hx => hg.pos x (List.mem_of_mem_drop hx))
 rw [drop_cons hl, sumP_cons] at h5
 rw [h6, drop_cons hl, findP, Int.emod_eq_of_lt (by omega) (by omega), if_pos (by omega)]
theorem FndI.next {ps : List (Int × Int)} {t r : Int} {i : Nat} (hg : Gd ps) (h : FndI ps t i r) (hv : ¬ r ≤ (ps.getD i (0, 0)).2) : FndI ps t (i + 1) (r - (ps.getD i (0, 0)).2) := by
 have hl := h.lt
 obtain ⟨h1, h2, s, h3, h4, h5, h6⟩ := h
 have hp := hg.pos _ (getD_mem' hl)
 have hd := sumP_nonneg (ps := ps.drop (i + 1)) (fun x hx => hg.pos x (List.mem_of_mem_drop hx))
 rw [drop_cons hl, sumP_cons] at h5 h2
 refine ⟨by omega, by omega, s + (ps.getD i (0, 0)).2, by omega, by omega, by omega, ?_⟩
 rw [h6, drop_cons hl, findP, Int.emod_eq_of_lt (by omega) (by omega), if_neg (by omega)]
theorem FndI.zero {ps : List (Int × Int)} {t : Int} (h0 : 0 < t) (h1 : t ≤ sumP ps) (h2 : sumP ps ≤ 9223372036854775807) : FndI ps t 0 t := ⟨h0, h1, 0, by omega, by omega, by simpa using h2, rfl⟩
theorem findP_over : ∀ {ps : List (Int × Int)} {t s : Int}, Gd ps → 0 ≤ s → s + sumP ps < t → s + sumP ps < 18446744073709551616 → findP t s ps = none
  | [], t, s, _, _, _, _ => rfl
  | x :: ps, t, s, hg, h0, h1, h2 => by
    have hx := hg.pos x (by simp)
    have hd := sumP_nonneg hg.tail.pos
    rw [sumP_cons] at h1 h2
    rw [findP, Int.emod_eq_of_lt (by omega) (by omega), if_neg (by omega)]
    exact findP_over hg.tail (by omega) (by omega) (by omega)
set_option maxRecDepth 100000 in
set_option maxHeartbeats 2000000 in
theorem sfind_any (b : Nat) (S : List Nat) (most : Int) (ps : List (Int × Int)) (t : Int) (w : World) (h : Strip w b S most ps) (ht : 0 ≤ t ∧ t < 18446744073709551616) :
  Calls Tryz.prog 220 #[.pointer (some ⟨b, 0, none⟩), .int .u64 t] w fun e w' => e = .returned (optI (findP t 0 ps)) ∧ w = w' := by
 have hl := h.len.2
 have hg := Lib.hid h.gd
 have hsm := h.sum
 obtain ⟨A, c, _, h⟩ := h
 have s1 := h.at'
 have f1 := s1.three
 have HO := Lib.hid h.own.rd
 obtain ⟨n, hn⟩ : ∃ n, ps.length = n := ⟨_, rfl⟩
 obtain ⟨T, hT⟩ : ∃ T, sumP ps = T := ⟨_, rfl⟩
 have HN := Lib.hid hn
 have HT := Lib.hid hT
 rw [hn, hT] at f1
 rw [hT] at hsm
 obtain ⟨ht0, ht1⟩ := ht
 clear hT h s1
 by_cases h0 : t = 0
 ·subst h0
  have HZ := Lib.hid (findP_zero ps 0)
  clear hn hl ht0 ht1 hsm
  go_enter Tryz.func220, Tryz.ntmps220
  go_wp2
  go_step3
  go_wp2
  simp only [Exit.noGoto]
  go_ret2
  exact ⟨by rw [HZ.out]; rfl, rfl⟩
 by_cases h1 : T < t
 ·have h0' : (t == 0) = false := beq_eq_false_iff_ne.2 h0
  have HZ := Lib.hid (findP_over (t := t) (s := 0) hg.out (by omega) (by rw [HT.out]; omega) (by rw [HT.out]; omega))
  clear hn hl ht0 ht1 hsm h0
  go_enter Tryz.func220, Tryz.ntmps220
  go_wp2
  go_step3
  go_wp2
  simp only [Exit.noGoto]
  go_ret2
  exact ⟨by rw [HZ.out]; rfl, rfl⟩
 have h0' : (t == 0) = false := beq_eq_false_iff_ne.2 h0
 have HI := Lib.hid (FndI.zero (ps := ps) (t := t) (by omega) (by rw [HT.out]; omega) (by rw [HT.out]; exact hsm))
 have hlt0 : 0 < n := by have := HI.out.lt; omega
 obtain ⟨g, rfl⟩ : ∃ g, A = some g := by
  obtain ⟨g, o, e, _⟩ := HO.out.at' 0 (by omega)
  exact ⟨⟨g, o, none⟩, e⟩
 have hbnd : Hid (t ≤ 9223372036854775807) := show t ≤ _ by omega
 clear hn h0 ht0 ht1 hsm
 go_enter Tryz.func220, Tryz.ntmps220
 go_wp2
 refine wp_scope_jumps 0 (fun a' w' => ∃ (i : Nat) (r : Int) (u2 u3 u4 u5 u7 u8 u9 u10 u11 u12 u13 u14 u15 u16 u17 u18 u19 u20 u21 u22 u23 u24 u25 u26 u27 u28 u29 u30 u31 u32 u33 u34 u35 u36 u37 u38 u39 u40 u41 u42 u43 u44 u45 u46 u47 u48 u49 u50 : Value), a' = { tmps := #[.pointer (some ⟨b, 0, none⟩), .int .u64 r, u2, u3, u4, u5, .int .i64 i, u7, u8, u9, u10, u11, u12, u13, u14, u15, u16, u17, u18, u19, u20, u21, u22, u23, u24, u25, u26, u27, u28, u29, u30, u31, u32, u33, u34, u35, u36, u37, u38, u39, u40, u41, u42, u43, u44, u45, u46, u47, u48, u49, u50], defers := [] } ∧ Hid (FndI ps t i r) ∧ w = w') (fun a' _ => n - (intOf (a'.tmps.getD 6 undef)).toNat) rfl ?_ ?_
 ·have hlt := hlt0
  obtain ⟨g', o, e, hg', c1, c2⟩ := HO.out.at' 0 (by have := HN.out; omega)
  cases e
  obtain ⟨x, hx⟩ : ∃ x, (ps.getD 0 (0, 0)).1 = x := ⟨_, rfl⟩
  obtain ⟨v, hv⟩ : ∃ v, (ps.getD 0 (0, 0)).2 = v := ⟨_, rfl⟩
  have HX := Lib.hid (And.intro hx hv)
  rw [hx] at c1
  rw [hv] at c2
  rw [Nat.zero_mul, Nat.add_zero] at c1 c2
  have k1 : (0 : Int) < n := by omega
  clear hx hv
  by_cases hle : v < t
  ·have HV := Lib.hid (FndI.next hg.out HI.out (by rw [HX.out.2]; omega))
   have hw : IntKind.u64.wrap (t - v) = t - v := by simp only [IntKind.wrap_u64]; have := hbnd.out; have := hg.out.pos _ (getD_mem' (show 0 < ps.length by rw [HN.out]; exact hlt)); rw [HX.out.2] at this; omega
   clear hlt0 hlt
   go_wp2
   go_step3
   go_wp2
   go_step3
   refine ⟨rfl, ?_⟩
   exact ⟨1, t - v, _, _, _, _, _, _, _, _, _, _, _, _, _, _, _, _, _, _, _, _, _, _, _, _, _, _, _, _, _, _, _, _, _, _, _, _, _, _, _, _, _, _, _, _, _, _, _, _, rfl, by rw [HX.out.2] at HV; exact HV, rfl⟩
  ·have HV := Lib.hid (FndI.here hg.out HI.out (by rw [HX.out.2]; omega))
   clear hlt0 hlt
   go_wp2
   go_step3
   go_wp2
   simp only [Exit.jump]
   go_ret2
   exact ⟨by rw [HV.out, HX.out.1]; rfl, rfl⟩
 ·rintro a' w' ⟨i, r, u2, u3, u4, u5, u7, u8, u9, u10, u11, u12, u13, u14, u15, u16, u17, u18, u19, u20, u21, u22, u23, u24, u25, u26, u27, u28, u29, u30, u31, u32, u33, u34, u35, u36, u37, u38, u39, u40, u41, u42, u43, u44, u45, u46, u47, u48, u49, u50, rfl, HJ, rfl⟩
  have hi : i < n := by have := HJ.out.lt; have := HN.out; omega
  obtain ⟨g', o, e, hg', c1, c2⟩ := HO.out.at' i (by have := HN.out; omega)
  cases e
  obtain ⟨x, hx⟩ : ∃ x, (ps.getD i (0, 0)).1 = x := ⟨_, rfl⟩
  obtain ⟨v, hv⟩ : ∃ v, (ps.getD i (0, 0)).2 = v := ⟨_, rfl⟩
  have HX := Lib.hid (And.intro hx hv)
  rw [hx] at c1
  rw [hv] at c2
  have k0 : (0 : Int) ≤ i := by omega
  have k1 : (i : Int) < n := by omega
  clear hx hv
  by_cases hle : v < r
  ·have HV := Lib.hid (FndI.next hg.out HJ.out (by rw [HX.out.2]; omega))
   have hw : IntKind.u64.wrap (r - v) = r - v := by
    simp only [IntKind.wrap_u64]
    have h1 := hbnd.out
    have h2 := hg.out.pos _ (getD_mem' (show i < ps.length by rw [HN.out]; exact hi))
    rw [HX.out.2] at h2
    obtain ⟨_, _, s, hs, h3, _⟩ := HJ.out
    omega
   have hw2 : IntKind.i64.wrap ((i : Int) + 1) = ((i + 1 : Nat) : Int) := by simp only [IntKind.wrap_i64]; have := HN.out; omega
   clear hlt0
   go_wp2
   go_step3
   refine ⟨rfl, ?_, ?_⟩
   ·exact ⟨i + 1, r - v, _, _, _, _, _, _, _, _, _, _, _, _, _, _, _, _, _, _, _, _, _, _, _, _, _, _, _, _, _, _, _, _, _, _, _, _, _, _, _, _, _, _, _, _, _, _, _, _, rfl, by rw [HX.out.2] at HV; exact HV, rfl⟩
   ·simp [intOf]; omega
  ·have HV := Lib.hid (FndI.here hg.out HJ.out (by rw [HX.out.2]; omega))
   clear hlt0
   go_wp2
   simp only [Exit.jump]
   go_ret2
   exact ⟨by rw [HV.out, HX.out.1]; rfl, rfl⟩
end Go.Proofs.YtlbnlmhcpephbaaGreatDoor
namespace Go.Proofs.YtlbnlmhcpephbaaGreatDoor
open Go.RowKit
end Go.Proofs.YtlbnlmhcpephbaaGreatDoor

namespace Go.Proofs.YtlbnlmhcpephbaaGreatDoor
def gap (s : Bool) (e i : Int) : Int := if s then e - i else i - e
def endP (s : Bool) (ps : List (Int × Int)) : Int := if s then (ps.getD (ps.length - 1) (0, 0)).1 else (ps.getD 0 (0, 0)).1
def keptP (s : Bool) (most : Int) (ps : List (Int × Int)) : List (Int × Int) := ps.filter fun x => decide (gap s (endP s ps) x.1 < most)
def capRow (s : Bool) (most : Int) (ps : List (Int × Int)) (q c : Int) : List (Int × Int) :=
 if ps.length ≠ 0 ∧ most ≤ gap s (endP s ps) q then ps else rowAdd (ps.filter fun x => decide (gap s q x.1 < most)) q c
def Win (s : Bool) (most : Int) (ps : List (Int × Int)) : Prop := ∀ x ∈ ps, gap s (endP s ps) x.1 < most
theorem cnt_mem {ps : List (Int × Int)} (h : Gd ps) {i : Int} : (∃ x ∈ ps, x.1 = i) ↔ 0 < cnt ps i :=
 ⟨fun ⟨x, hx, e⟩ => e ▸ cnt_mem_pos h.pos hx, cnt_pos_mem⟩
theorem Gd.filter {ps : List (Int × Int)} (h : Gd ps) (p : Int × Int → Bool) : Gd (ps.filter p) := ⟨h.srt.filter _, fun x hx => h.pos x (List.mem_filter.1 hx).1⟩
section
variable {s : Bool} {most : Int} {ps all : List (Int × Int)} {q c : Int}
theorem cnt_kept (i : Int) : cnt (keptP s most ps) i = if gap s (endP s ps) i < most then cnt ps i else 0 := by
 unfold keptP
 rw [cnt_filter (fun y => decide (gap s (endP s ps) y < most))]
 simp only [decide_eq_true_eq]
def addAll (ps l : List (Int × Int)) : List (Int × Int) := l.foldl (fun r x => rowAdd r x.1 x.2) ps
def capAll (s : Bool) (most : Int) (ps l : List (Int × Int)) : List (Int × Int) := l.foldl (fun r x => capRow s most r x.1 x.2) ps
theorem addAll_append (ps l l' : List (Int × Int)) : addAll ps (l ++ l') = addAll (addAll ps l) l' := by unfold addAll; rw [List.foldl_append]
theorem addAll_spec : ∀ {l ps : List (Int × Int)}, Gd ps → (∀ x ∈ l, 0 < x.2) → sumP ps + sumP l < 18446744073709551616 →
    Gd (addAll ps l) ∧ sumP (addAll ps l) = sumP ps + sumP l ∧ ∀ i, cnt (addAll ps l) i = cnt ps i + cnt l i
  | [], ps, h, _, _ => ⟨h, by rw [sumP_nil, Int.add_zero]; rfl, fun i => by rw [cnt_nil, Int.add_zero]; rfl⟩
  | x :: l, ps, h, hp, hs => by
    have h1 := hp x (by simp)
    have hp' : ∀ y ∈ l, 0 < y.2 := fun y hy => hp y (by simp [hy])
    have h2 := sumP_nonneg hp'
    rw [sumP_cons] at hs
    have h3 : cnt ps x.1 + x.2 < 18446744073709551616 := by have := cnt_le_sumP h.pos x.1; omega
    obtain ⟨a, b, c⟩ := addAll_spec (l := l) (ps := rowAdd ps x.1 x.2) (h.rowAdd h1 h3) hp' (by rw [sumP_rowAdd h h1 h3]; omega)
    refine ⟨a, ?_, fun i => ?_⟩
    · show sumP (addAll (rowAdd ps x.1 x.2) l) = _
      rw [b, sumP_rowAdd h h1 h3, sumP_cons]; omega
    · show cnt (addAll (rowAdd ps x.1 x.2) l) i = _
      rw [c, cnt_rowAdd h h1 h3, cnt_cons]
      by_cases e : x.1 = i
      · rw [if_pos e, if_pos e.symm]; omega
      · rw [if_neg e, if_neg (fun k => e k.symm)]; omega
end
end Go.Proofs.YtlbnlmhcpephbaaGreatDoor
namespace Go.Proofs.YtlbnlmhcpephbaaGreatDoor
def farI (s : Bool) (ps : List (Int × Int)) : Nat := if s then 0 else ps.length - 1
def near (s : Bool) (most e : Int) (ps : List (Int × Int)) : List (Int × Int) := ps.filter fun x => decide (gap s e x.1 < most)
section
variable {s : Bool} {most e : Int} {ps : List (Int × Int)}
theorem far_gap (h : Gd ps) : ∀ x ∈ ps, gap s e x.1 ≤ gap s e (ps.getD (farI s ps) (0, 0)).1 := by
 intro x hx
 obtain ⟨a, ha, rfl⟩ := List.getElem_of_mem hx
 have h1 := h.le (i := 0) (j := a) (by omega) ha
 have h2 := h.le (i := a) (j := ps.length - 1) (by omega) (by omega)
 rw [@List.getD_eq_getElem?_getD _ ps a, List.getElem?_eq_getElem ha, Option.getD_some] at h1 h2
 unfold gap farI
 cases s with
 | true => simp only [if_true]; omega
 | false => simp only [Bool.false_eq_true, if_false]; omega
theorem near_all (h : Gd ps) (hg : gap s e (ps.getD (farI s ps) (0, 0)).1 < most) : near s most e ps = ps :=
 List.filter_eq_self.2 fun x hx => decide_eq_true (Int.lt_of_le_of_lt (far_gap h x hx) hg)
theorem near_nil : near s most e [] = [] := rfl
theorem near_sum (h : Gd ps) : 0 ≤ sumP (near s most e ps) ∧ sumP (near s most e ps) ≤ sumP ps := sumP_filter_le h.pos _
theorem near_gd (h : Gd ps) : Gd (near s most e ps) := h.filter _
end
end Go.Proofs.YtlbnlmhcpephbaaGreatDoor
namespace Go.Proofs.YtlbnlmhcpephbaaGreatDoor
open Go.RowKit
def lenC (w : World) (c : Nat) : Nat := match w.cell? ⟨c, 1, none⟩ with
 | some (.slice _ n _) => n
 | _ => 0
end Go.Proofs.YtlbnlmhcpephbaaGreatDoor

namespace Go.Proofs.YtlbnlmhcpephbaaGreatDoor
open Go.RowKit
structure GdM (ps : List (Int × Int)) : Prop where
 gd : Gd ps
 mx : ∀ x ∈ ps, x.2 ≤ 9223372036854775807
def SaysP (P : Prop) (e : Ending) : Prop := ∃ bv, e = .returned (.bool bv) ∧ (bv = true ↔ P)
end Go.Proofs.YtlbnlmhcpephbaaGreatDoor

namespace Go.Proofs.YtlbnlmhcpephbaaGreatDoor.Lo
open Go.RowKit
abbrev sd : Bool := true
def LowR (w : World) (b : Nat) (S : List Nat) (most : Int) (ps : List (Int × Int)) (lost : Int) : Prop :=
 ∃ c S', S = b :: S' ∧ b ∉ S' ∧ At w b #[.int .i64 most, .pointer (some ⟨c, 0, none⟩), .int .u64 lost] 265 ∧ Strip w c S' most ps
section
variable {w w' : World} {b : Nat} {S T : List Nat} {most lost lost' : Int} {ps : List (Int × Int)}
theorem LowR.frame (h : LowR w b S most ps lost) (hf : Frame T w w') (hn : Apart S T) : LowR w' b S most ps lost := by
 obtain ⟨c, S', rfl, h1, h2, h3⟩ := h
 exact ⟨c, S', rfl, h1, hf.at h2 (hn b (by simp)), h3.frame hf fun k hk => hn k (by simp [hk])⟩
end
structure Low (w : World) (b : Nat) (S : List Nat) (most : Int) (ps : List (Int × Int)) (tot : Int) : Prop where
 r : LowR w b S most ps (tot - sumP ps)
 win : Win sd most ps
 m1 : 1 ≤ most
 lo : sumP ps ≤ tot
 hi : tot ≤ 9223372036854775807
section
variable {w w' : World} {b : Nat} {S T : List Nat} {most tot : Int} {ps : List (Int × Int)}
theorem Low.frame (h : Low w b S most ps tot) (hf : Frame T w w') (hn : Apart S T) : Low w' b S most ps tot := ⟨h.r.frame hf hn, h.win, h.m1, h.lo, h.hi⟩
theorem Low.gd (h : Low w b S most ps tot) : Gd ps := by obtain ⟨c, S', _, _, _, h⟩ := h.r; exact h.gd
theorem Low.ok (h : Low w b S most ps tot) : okP ps := by obtain ⟨c, S', _, _, _, h⟩ := h.r; exact h.ok
theorem Low.sum0 (h : Low w b S most ps tot) : 0 ≤ sumP ps := sumP_nonneg h.gd.pos
end
def endV (s : Bool) (ps : List (Int × Int)) : Value := if ps.length = 0 then .tuple #[.int .i64 0, .bool false] else .tuple #[.int .i64 (endP s ps), .bool true]
theorem ltotal_any (b : Nat) (S : List Nat) (most tot : Int) (ps : List (Int × Int)) (w : World) (h : Low w b S most ps tot) :
  Calls Tryz.prog 135 #[.pointer (some ⟨b, 0, none⟩)] w fun r w' => r = .returned (.int .u64 tot) ∧ Below w.heap.size w w' := by
 have hw : IntKind.u64.wrap (sumP ps + (tot - sumP ps)) = tot := by have := h.lo; have := h.hi; have := h.sum0; simp only [IntKind.wrap_u64]; omega
 obtain ⟨⟨c, S', _, _, s1, hS⟩, _⟩ := h
 have HS := Lib.hid hS
 obtain ⟨lo, hlo⟩ : ∃ lo, tot - sumP ps = lo := ⟨_, rfl⟩
 rw [hlo] at s1 hw
 clear hS hlo
 go_enter Tryz.func135, Tryz.ntmps135
 go_wp2
 have hfar1 := fun x : Far w => (x.at s1).three
 refine wp_region_far (by kernel_rfl) (by kernel_rfl) ?_
 repeat (first | go_big_quiet_skip | (go_big_quiet_want; go_big_quiet_op; first | go_big_quiet_on | (apply Exists.intro; refine ⟨fun _ => ?_, ?_⟩; (focus (first | (refine far_of_same ((stotal_any c S' most ps _ (HS.out.below (Far.below _))).mono fun _ _ h => ⟨h.1, h.2.symm⟩)))); go_big_quiet_on)))
 refine wpQuiet_nil ?_
 rintro _ ⟨xq, rfl⟩
 clear hfar1
 go_wp2
 go_ret
 exact ⟨rfl, Far.below _⟩
end Go.Proofs.YtlbnlmhcpephbaaGreatDoor.Lo
namespace Go.Proofs.YtlbnlmhcpephbaaGreatDoor.Lo
open Go.RowKit
structure Shd (w wr : World) (b c : Nat) (S' : List Nat) (most e tot : Int) (ps qs : List (Int × Int)) : Prop where
 nb : b ∉ S'
 at' : At wr b #[.int .i64 most, .pointer (some ⟨c, 0, none⟩), .int .u64 (tot - sumP qs)] 265
 st : Strip wr c S' most qs
 nr : near sd most e qs = near sd most e ps
 sm : sumP qs ≤ tot
 fr : Frame (b :: S') w wr
def LadR (b : Nat) (S : List Nat) (most : Int) (ps : List (Int × Int)) (tot q cc : Int) (w w' : World) : Prop :=
 ∃ S', GrownS S S' w.heap.size ∧ Low w' b S' most (capRow sd most ps q cc) (tot + cc) ∧ Frame S w w'
end Go.Proofs.YtlbnlmhcpephbaaGreatDoor.Lo
namespace Go.Proofs.YtlbnlmhcpephbaaGreatDoor.Lo
open Go.RowKit
structure Mer (w wr : World) (b : Nat) (S S' : List Nat) (n : Nat) (most tot : Int) (ps : List (Int × Int)) (A : Option Addr) (qs : List (Int × Int)) : Prop where
 low : Low wr b S' most ps tot
 gr : GrownS S S' n
 fr : Frame S w wr
 rd : RdP wr A qs
 ap : ∀ k ∈ blk A, k ∉ S'
end Go.Proofs.YtlbnlmhcpephbaaGreatDoor.Lo
namespace Go.Proofs.YtlbnlmhcpephbaaGreatDoor.Lo
open Go.RowKit
def lowFind (lo : Int) (ps : List (Int × Int)) (t : Int) : Option Int := if t ≤ lo then none else findP (t - lo) 0 ps
set_option maxRecDepth 100000 in
theorem lfind_any (b : Nat) (S : List Nat) (most tot t : Int) (ps : List (Int × Int)) (w : World) (h : Low w b S most ps tot) (ht : 0 ≤ t ∧ t < 18446744073709551616) :
  Calls Tryz.prog 395 #[.pointer (some ⟨b, 0, none⟩), .int .u64 t] w fun e w' => e = .returned (optI (lowFind (tot - sumP ps) ps t)) ∧ Below w.heap.size w w' := by
 have hlo0 : 0 ≤ tot - sumP ps := by have := h.lo; omega
 obtain ⟨⟨c, S', _, _, s1, hS⟩, _⟩ := h
 have HS := Lib.hid hS
 obtain ⟨lo, hlo⟩ : ∃ lo, tot - sumP ps = lo := ⟨_, rfl⟩
 rw [hlo] at s1 hlo0 ⊢
 have f1 := s1.three
 clear hS hlo
 by_cases hle : t ≤ lo
 ·have HV : Hid (optI (lowFind lo ps t) = .tuple #[.int .i64 0, .bool false]) := by show _ = _; unfold lowFind; rw [if_pos hle]; rfl
  go_enter Tryz.func395, Tryz.ntmps395
  go_wp2
  go_ret2
  exact ⟨by rw [HV.out]; rfl, Below.refl _ _⟩
 ·have hw : IntKind.u64.wrap (t - lo) = t - lo := by simp only [IntKind.wrap_u64]; omega
  have HC := Lib.hid (sfind_any c S' most ps (t - lo))
  have HT : Hid (0 ≤ t - lo ∧ t - lo < 18446744073709551616) := ⟨by omega, by omega⟩
  obtain ⟨fi, hfi⟩ : ∃ fi, (findP (t - lo) 0 ps).getD 0 = fi := ⟨_, rfl⟩
  obtain ⟨fb, hfb⟩ : ∃ fb, (findP (t - lo) 0 ps).isSome = fb := ⟨_, rfl⟩
  have HOP : Hid (optI (findP (t - lo) 0 ps) = .tuple #[.int .i64 fi, .bool fb]) := by show _ = _; unfold optI; rw [hfi, hfb]
  have HV : Hid (optI (lowFind lo ps t) = .tuple #[.int .i64 fi, .bool fb]) := by show _ = _; unfold lowFind; rw [if_neg hle, HOP.out]
  clear hfi hfb ht
  go_enter Tryz.func395, Tryz.ntmps395
  go_wp2
  have hfar1 := fun x : Far w => (x.at s1).three
  refine wp_region_far (by kernel_rfl) (by kernel_rfl) ?_
  repeat (first | go_big_quiet_skip | (go_big_quiet_want; go_big_quiet_op; first | go_big_quiet_on | (apply Exists.intro; refine ⟨fun _ => ?_, ?_⟩; (focus (first | (refine far_of_same ((HC.out _ (HS.out.below (Far.below _)) HT.out).mono fun _ _ h => ⟨h.1.trans (by rw [HOP.out]), h.2.symm⟩)))); go_big_quiet_on)))
  refine wpQuiet_nil ?_
  rintro _ ⟨xq, rfl⟩
  clear hfar1
  go_wp2
  go_ret2
  exact ⟨by rw [HV.out]; rfl, Far.below _⟩
def lowBelow (most lo : Int) (ps : List (Int × Int)) (q : Int) : Int × Int := if ps.length ≠ 0 ∧ most < endP sd ps - q then (0, lo) else (upto ps q + lo, upto ps q + lo)
end Go.Proofs.YtlbnlmhcpephbaaGreatDoor.Lo
namespace Go.Proofs.YtlbnlmhcpephbaaGreatDoor.Lo
open Go.RowKit
structure LoadOk (most : Int) (rs : List (Int × Int)) (lost : Int) : Prop where
 gm : GdM rs
 ln : (rs.length : Int) ≤ most
 sm : sumP rs + lost ≤ 9223372036854775807
 win : Win sd most rs
 em : rs = [] → lost = 0
def LoadR (most : Int) (rs : List (Int × Int)) (lost : Int) (w : World) (e : Ending) (w' : World) : Prop :=
 (LoadOk most rs lost ∧ ∃ b S, e = .returned (.tuple #[.pointer (some ⟨b, 0, none⟩), .int .i64 0]) ∧ Within S w.heap.size w'.heap.size ∧ Low w' b S most rs (sumP rs + lost)) ∨
 (¬ LoadOk most rs lost ∧ e = .returned (.tuple #[.pointer none, .int .i64 1]))
end Go.Proofs.YtlbnlmhcpephbaaGreatDoor.Lo
namespace Go.Proofs.YtlbnlmhcpephbaaGreatDoor.Lo
open Go.RowKit
structure DocB (w : World) (m : Nat) (A : Option Addr) (c : Nat) (most : Int) (ps : List (Int × Int)) : Prop where
 at' : At w m #[.int .i64 most, .slice A ps.length c] 442
 own : Own2 0 w A c ps
 ne : m ∉ blk A
def DocL (w : World) (m : Nat) (S : List Nat) (most : Int) (ps : List (Int × Int)) : Prop := ∃ A c, S = m :: blk A ∧ DocB w m A c most ps
section
variable {w w' : World} {b : Nat} {S T : List Nat} {most : Int} {ps : List (Int × Int)}
end
structure DocC (w : World) (m : Nat) (A : Option Addr) (c : Nat) (most : Int) (ps : List (Int × Int)) : Prop where
 at' : At w m #[.int .i64 most, .slice A ps.length c] 442
 rd : RdP w A ps
def DocD (w : World) (m : Nat) (most : Int) (ps : List (Int × Int)) : Prop := ∃ A c, DocC w m A c most ps
theorem kept_near (s : Bool) (most : Int) (ps : List (Int × Int)) : near s most (endP s ps) ps = keptP s most ps := rfl
theorem findP_mem {t : Int} : ∀ {ps : List (Int × Int)} {s i : Int}, findP t s ps = some i → ∃ x ∈ ps, x.1 = i
  | [], _, _, h => by cases h
  | y :: ps, s, i, h => by
    unfold findP at h
    split at h
    · cases h; exact ⟨y, by simp, rfl⟩
    · obtain ⟨x, hx, e⟩ := findP_mem h
      exact ⟨x, by simp [hx], e⟩
def keepO (most e : Int) (o : Option Int) : Option Int := match o with
 | some i => if gap sd e i < most then some i else none
 | none => none
def docFind (most : Int) (ps : List (Int × Int)) (t : Int) : Option Int := keepO most (endP sd ps) (findP t 0 ps)
end Go.Proofs.YtlbnlmhcpephbaaGreatDoor.Lo
namespace Go.Proofs.YtlbnlmhcpephbaaGreatDoor.Lo
theorem findP_shift {t d : Int} : ∀ {ps : List (Int × Int)} {s : Int}, (∀ x ∈ ps, 0 < x.2) → 0 ≤ s → 0 ≤ d → s + d + sumP ps < 18446744073709551616 → 0 < t - d → findP (t - d) s ps = findP t (s + d) ps
  | [], _, _, _, _, _, _ => rfl
  | x :: ps, s, hp, hs, hd, hb, ht => by
    have h1 := hp x (by simp)
    have h2 := sumP_nonneg (ps := ps) fun y hy => hp y (by simp [hy])
    rw [sumP_cons] at hb
    unfold findP
    rw [Int.emod_eq_of_lt (by omega : 0 ≤ s + x.2) (by omega), Int.emod_eq_of_lt (by omega : 0 ≤ s + d + x.2) (by omega)]
    by_cases h : t - d ≤ s + x.2
    · rw [if_pos ⟨ht, h⟩, if_pos ⟨by omega, by omega⟩]
    · rw [if_neg (fun k => h k.2), if_neg (fun k => h (by omega)), findP_shift (fun y hy => hp y (by simp [hy])) (by omega) hd (by omega) ht]
      rw [show s + x.2 + d = s + d + x.2 by omega]
theorem near_cons_far {s : Bool} {most e : Int} {x : Int × Int} {ps : List (Int × Int)} (h : ¬ gap s e x.1 < most) : near s most e (x :: ps) = near s most e ps := by
 unfold near; rw [List.filter_cons_of_neg (by rw [decide_eq_true_eq]; exact h)]
theorem find_near {most e t : Int} : ∀ {ps : List (Int × Int)} {s : Int}, Gd ps → 0 ≤ s → s < t → s + sumP ps < 18446744073709551616 →
    keepO most e (findP t s ps) = if t ≤ s + (sumP ps - sumP (near sd most e ps)) then none else findP t (s + (sumP ps - sumP (near sd most e ps))) (near sd most e ps)
  | [], s, _, _, ht, _ => by
    rw [near_nil, sumP_nil]
    unfold findP
    rw [ite_self]
    rfl
  | x :: ps, s, h, h0, ht, hb => by
    have h1 := h.pos x (by simp)
    have h2 := sumP_nonneg h.tail.pos
    by_cases hx : gap sd e x.1 < most
    · have hn : near sd most e (x :: ps) = x :: ps := near_all h hx
      rw [hn, Int.sub_self, Int.add_zero, if_neg (by omega)]
      cases hf : findP t s (x :: ps) with
      | none => rfl
      | some i =>
        obtain ⟨y, hy, e1⟩ := findP_mem hf
        rw [← hn] at hy
        unfold keepO
        dsimp only
        rw [if_pos]
        rw [← e1]
        exact of_decide_eq_true (List.mem_filter.1 hy).2
    · have hsm := near_sum (s := sd) (most := most) (e := e) h.tail
      rw [near_cons_far hx, sumP_cons] at *
      unfold findP
      rw [Int.emod_eq_of_lt (by omega : 0 ≤ s + x.2) (by omega)]
      by_cases hle : t ≤ s + x.2
      · rw [if_pos ⟨by omega, hle⟩, if_pos (by omega)]
        unfold keepO
        dsimp only
        rw [if_neg hx]
      · rw [if_neg (fun k => hle k.2), find_near h.tail (by omega) (by omega) (by omega)]
        rw [show s + x.2 + (sumP ps - sumP (near sd most e ps)) = s + (x.2 + sumP ps - sumP (near sd most e ps)) by omega]
        cases hn : near sd most e ps with
        | nil => simp [findP]
        | cons y l => rfl
theorem lowFind_doc {most t : Int} {all : List (Int × Int)} (h : Gd all) (hs : sumP all < 18446744073709551616) (ht : 0 ≤ t) :
  lowFind (sumP all - sumP (keptP sd most all)) (keptP sd most all) t = docFind most all t := by
 have hsm := near_sum (s := sd) (most := most) (e := endP sd all) h
 have hg := near_gd (s := sd) (most := most) (e := endP sd all) h
 unfold lowFind docFind
 rw [← kept_near sd most all]
 by_cases h0 : t = 0
 ·subst h0
  rw [findP_zero, if_pos (by omega)]
  rfl
 ·rw [find_near h (by omega) (by omega) (by omega), Int.zero_add]
  by_cases hl : t ≤ sumP all - sumP (near sd most (endP sd all) all)
  ·rw [if_pos hl, if_pos hl]
  ·rw [if_neg hl, if_neg hl, findP_shift hg.pos (by omega) (by omega) (by omega) (by omega), Int.zero_add]
end Go.Proofs.YtlbnlmhcpephbaaGreatDoor.Lo

namespace Go.Proofs.YtlbnlmhcpephbaaGreatDoor.Hi
open Go.RowKit
abbrev sd : Bool := false
def HighR (w : World) (b : Nat) (S : List Nat) (most : Int) (ps : List (Int × Int)) (lost : Int) : Prop :=
 ∃ c S', S = b :: S' ∧ b ∉ S' ∧ At w b #[.int .i64 most, .pointer (some ⟨c, 0, none⟩), .int .u64 lost] 263 ∧ Strip w c S' most ps
section
variable {w w' : World} {b : Nat} {S T : List Nat} {most lost lost' : Int} {ps : List (Int × Int)}
theorem HighR.frame (h : HighR w b S most ps lost) (hf : Frame T w w') (hn : Apart S T) : HighR w' b S most ps lost := by
 obtain ⟨c, S', rfl, h1, h2, h3⟩ := h
 exact ⟨c, S', rfl, h1, hf.at h2 (hn b (by simp)), h3.frame hf fun k hk => hn k (by simp [hk])⟩
end
structure High (w : World) (b : Nat) (S : List Nat) (most : Int) (ps : List (Int × Int)) (tot : Int) : Prop where
 r : HighR w b S most ps (tot - sumP ps)
 win : Win sd most ps
 m1 : 1 ≤ most
 lo : sumP ps ≤ tot
 hi : tot ≤ 9223372036854775807
section
variable {w w' : World} {b : Nat} {S T : List Nat} {most tot : Int} {ps : List (Int × Int)}
theorem High.frame (h : High w b S most ps tot) (hf : Frame T w w') (hn : Apart S T) : High w' b S most ps tot := ⟨h.r.frame hf hn, h.win, h.m1, h.lo, h.hi⟩
theorem High.gd (h : High w b S most ps tot) : Gd ps := by obtain ⟨c, S', _, _, _, h⟩ := h.r; exact h.gd
theorem High.ok (h : High w b S most ps tot) : okP ps := by obtain ⟨c, S', _, _, _, h⟩ := h.r; exact h.ok
theorem High.sum0 (h : High w b S most ps tot) : 0 ≤ sumP ps := sumP_nonneg h.gd.pos
end
def endV (s : Bool) (ps : List (Int × Int)) : Value := if ps.length = 0 then .tuple #[.int .i64 0, .bool false] else .tuple #[.int .i64 (endP s ps), .bool true]
theorem ltotal_any (b : Nat) (S : List Nat) (most tot : Int) (ps : List (Int × Int)) (w : World) (h : High w b S most ps tot) :
  Calls Tryz.prog 133 #[.pointer (some ⟨b, 0, none⟩)] w fun r w' => r = .returned (.int .u64 tot) ∧ Below w.heap.size w w' := by
 have hw : IntKind.u64.wrap (sumP ps + (tot - sumP ps)) = tot := by have := h.lo; have := h.hi; have := h.sum0; simp only [IntKind.wrap_u64]; omega
 obtain ⟨⟨c, S', _, _, s1, hS⟩, _⟩ := h
 have HS := Lib.hid hS
 obtain ⟨lo, hlo⟩ : ∃ lo, tot - sumP ps = lo := ⟨_, rfl⟩
 rw [hlo] at s1 hw
 clear hS hlo
 go_enter Tryz.func133, Tryz.ntmps133
 go_wp2
 have hfar1 := fun x : Far w => (x.at s1).three
 refine wp_region_far (by kernel_rfl) (by kernel_rfl) ?_
 repeat (first | go_big_quiet_skip | (go_big_quiet_want; go_big_quiet_op; first | go_big_quiet_on | (apply Exists.intro; refine ⟨fun _ => ?_, ?_⟩; (focus (first | (refine far_of_same ((stotal_any c S' most ps _ (HS.out.below (Far.below _))).mono fun _ _ h => ⟨h.1, h.2.symm⟩)))); go_big_quiet_on)))
 refine wpQuiet_nil ?_
 rintro _ ⟨xq, rfl⟩
 clear hfar1
 go_wp2
 go_ret
 exact ⟨rfl, Far.below _⟩
end Go.Proofs.YtlbnlmhcpephbaaGreatDoor.Hi
namespace Go.Proofs.YtlbnlmhcpephbaaGreatDoor.Hi
open Go.RowKit
structure Shd (w wr : World) (b c : Nat) (S' : List Nat) (most e tot : Int) (ps qs : List (Int × Int)) : Prop where
 nb : b ∉ S'
 at' : At wr b #[.int .i64 most, .pointer (some ⟨c, 0, none⟩), .int .u64 (tot - sumP qs)] 263
 st : Strip wr c S' most qs
 nr : near sd most e qs = near sd most e ps
 sm : sumP qs ≤ tot
 fr : Frame (b :: S') w wr
def LadR (b : Nat) (S : List Nat) (most : Int) (ps : List (Int × Int)) (tot q cc : Int) (w w' : World) : Prop :=
 ∃ S', GrownS S S' w.heap.size ∧ High w' b S' most (capRow sd most ps q cc) (tot + cc) ∧ Frame S w w'
end Go.Proofs.YtlbnlmhcpephbaaGreatDoor.Hi
namespace Go.Proofs.YtlbnlmhcpephbaaGreatDoor.Hi
open Go.RowKit
structure Mer (w wr : World) (b : Nat) (S S' : List Nat) (n : Nat) (most tot : Int) (ps : List (Int × Int)) (A : Option Addr) (qs : List (Int × Int)) : Prop where
 low : High wr b S' most ps tot
 gr : GrownS S S' n
 fr : Frame S w wr
 rd : RdP wr A qs
 ap : ∀ k ∈ blk A, k ∉ S'
end Go.Proofs.YtlbnlmhcpephbaaGreatDoor.Hi
namespace Go.Proofs.YtlbnlmhcpephbaaGreatDoor.Hi
open Go.RowKit
def lowFind (_ : Int) (ps : List (Int × Int)) (t : Int) : Option Int := findP t 0 ps
theorem lfind_any (b : Nat) (S : List Nat) (most tot t : Int) (ps : List (Int × Int)) (w : World) (h : High w b S most ps tot) (ht : 0 ≤ t ∧ t < 18446744073709551616) :
  Calls Tryz.prog 391 #[.pointer (some ⟨b, 0, none⟩), .int .u64 t] w fun e w' => e = .returned (optI (lowFind (tot - sumP ps) ps t)) ∧ Below w.heap.size w w' := by
 obtain ⟨⟨c, S', _, _, s1, hS⟩, _⟩ := h
 have HC := Lib.hid (sfind_any c S' most ps t w hS ht)
 obtain ⟨lo, hlo⟩ : ∃ lo, tot - sumP ps = lo := ⟨_, rfl⟩
 rw [hlo] at s1 ⊢
 have f1 := s1.three
 obtain ⟨fi, hfi⟩ : ∃ fi, (findP t 0 ps).getD 0 = fi := ⟨_, rfl⟩
 obtain ⟨fb, hfb⟩ : ∃ fb, (findP t 0 ps).isSome = fb := ⟨_, rfl⟩
 have HOP : Hid (optI (findP t 0 ps) = .tuple #[.int .i64 fi, .bool fb]) := by show _ = _; unfold optI; rw [hfi, hfb]
 have HV : Hid (optI (lowFind lo ps t) = .tuple #[.int .i64 fi, .bool fb]) := HOP
 clear hS hlo hfi hfb ht
 go_enter Tryz.func391, Tryz.ntmps391
 go_wp2_with fail
 refine HC.out.mono ?_
 rintro e w1 ⟨rfl, rfl⟩
 rw [HOP.out]
 go_wp2
 go_ret2
 exact ⟨by rw [HV.out]; rfl, Below.refl _ _⟩
def lowBelow (most lo : Int) (ps : List (Int × Int)) (q : Int) : Int × Int := if ps.length ≠ 0 ∧ most ≤ q - endP sd ps then (upto ps q, upto ps q + lo) else (upto ps q, upto ps q)
end Go.Proofs.YtlbnlmhcpephbaaGreatDoor.Hi
namespace Go.Proofs.YtlbnlmhcpephbaaGreatDoor.Hi
open Go.RowKit
structure LoadOk (most : Int) (rs : List (Int × Int)) (lost : Int) : Prop where
 gm : GdM rs
 ln : (rs.length : Int) ≤ most
 sm : sumP rs + lost ≤ 9223372036854775807
 win : Win sd most rs
 em : rs = [] → lost = 0
def LoadR (most : Int) (rs : List (Int × Int)) (lost : Int) (w : World) (e : Ending) (w' : World) : Prop :=
 (LoadOk most rs lost ∧ ∃ b S, e = .returned (.tuple #[.pointer (some ⟨b, 0, none⟩), .int .i64 0]) ∧ Within S w.heap.size w'.heap.size ∧ High w' b S most rs (sumP rs + lost)) ∨
 (¬ LoadOk most rs lost ∧ e = .returned (.tuple #[.pointer none, .int .i64 1]))
end Go.Proofs.YtlbnlmhcpephbaaGreatDoor.Hi
namespace Go.Proofs.YtlbnlmhcpephbaaGreatDoor.Hi
open Go.RowKit
structure DocB (w : World) (m : Nat) (A : Option Addr) (c : Nat) (most : Int) (ps : List (Int × Int)) : Prop where
 at' : At w m #[.int .i64 most, .slice A ps.length c] 440
 own : Own2 0 w A c ps
 ne : m ∉ blk A
def DocL (w : World) (m : Nat) (S : List Nat) (most : Int) (ps : List (Int × Int)) : Prop := ∃ A c, S = m :: blk A ∧ DocB w m A c most ps
section
variable {w w' : World} {b : Nat} {S T : List Nat} {most : Int} {ps : List (Int × Int)}
end
structure DocC (w : World) (m : Nat) (A : Option Addr) (c : Nat) (most : Int) (ps : List (Int × Int)) : Prop where
 at' : At w m #[.int .i64 most, .slice A ps.length c] 440
 rd : RdP w A ps
def DocD (w : World) (m : Nat) (most : Int) (ps : List (Int × Int)) : Prop := ∃ A c, DocC w m A c most ps
theorem kept_near (s : Bool) (most : Int) (ps : List (Int × Int)) : near s most (endP s ps) ps = keptP s most ps := rfl
theorem findP_mem {t : Int} : ∀ {ps : List (Int × Int)} {s i : Int}, findP t s ps = some i → ∃ x ∈ ps, x.1 = i
  | [], _, _, h => by cases h
  | y :: ps, s, i, h => by
    unfold findP at h
    split at h
    · cases h; exact ⟨y, by simp, rfl⟩
    · obtain ⟨x, hx, e⟩ := findP_mem h
      exact ⟨x, by simp [hx], e⟩
def keepO (most e : Int) (o : Option Int) : Option Int := match o with
 | some i => if gap sd e i < most then some i else none
 | none => none
def docFind (most : Int) (ps : List (Int × Int)) (t : Int) : Option Int := keepO most (endP sd ps) (findP t 0 ps)
end Go.Proofs.YtlbnlmhcpephbaaGreatDoor.Hi
namespace Go.Proofs.YtlbnlmhcpephbaaGreatDoor.Hi
theorem find_near {most e t : Int} : ∀ {ps : List (Int × Int)} {s : Int}, Gd ps → keepO most e (findP t s ps) = findP t s (near sd most e ps)
  | [], s, _ => rfl
  | x :: ps, s, h => by
    by_cases hx : gap sd e x.1 < most
    · have hn : near sd most e (x :: ps) = x :: near sd most e ps := by unfold near; rw [List.filter_cons_of_pos (by rw [decide_eq_true_eq]; exact hx)]
      rw [hn]
      unfold findP
      by_cases hc : 0 < t ∧ t ≤ (s + x.2) % 18446744073709551616
      · rw [if_pos hc, if_pos hc]
        unfold keepO
        dsimp only
        rw [if_pos hx]
      · rw [if_neg hc, if_neg hc]
        exact find_near h.tail
    · have hall : ∀ y ∈ x :: ps, ¬ gap sd e y.1 < most := fun y hy => by
        have h1 : gap sd e y.1 = y.1 - e := rfl
        have h2 : gap sd e x.1 = x.1 - e := rfl
        rcases List.mem_cons.1 hy with rfl | hy
        · exact hx
        · have := h.head y hy; omega
      have hn : near sd most e (x :: ps) = [] := List.filter_eq_nil_iff.2 fun y hy => by rw [decide_eq_true_eq]; exact hall y hy
      rw [hn]
      cases hf : findP t s (x :: ps) with
      | none => rfl
      | some i =>
        obtain ⟨y, hy, e1⟩ := findP_mem hf
        unfold keepO
        dsimp only
        rw [if_neg (by rw [← e1]; exact hall y hy)]
        rfl
theorem lowFind_doc {most t : Int} {all : List (Int × Int)} (h : Gd all) (_ : sumP all < 18446744073709551616) (_ : 0 ≤ t) :
  lowFind (sumP all - sumP (keptP sd most all)) (keptP sd most all) t = docFind most all t := by
 unfold lowFind docFind
 rw [← kept_near sd most all, find_near h]
end Go.Proofs.YtlbnlmhcpephbaaGreatDoor.Hi

namespace Go.Proofs.YtlbnlmhcpephbaaGreatDoor
open Go.RowKit
def upV (l : List (Int × Int)) (x : Int) : Int := sumP (l.filter fun v => decide (v.1 ≤ x))
def lowV (a : Int) (l : List (Int × Int)) : Int := l.foldl (fun m v => min m v.1) a
def highV (a : Int) (l : List (Int × Int)) : Int := l.foldl (fun m v => max m v.1) a
theorem vsum_filter {l : List (Int × Int)} (h : ∀ x ∈ l, 0 < x.2) (p : Int × Int → Bool) : 0 ≤ sumP (l.filter p) ∧ sumP (l.filter p) ≤ sumP l := by
  induction l with
  | nil => exact ⟨Int.le_refl _, Int.le_refl _⟩
  | cons x l ih =>
    have h1 := ih fun y hy => h y (by simp [hy])
    have h2 := h x (by simp)
    rw [List.filter_cons]
    split
    · unfold sumP at *; simp only [List.map_cons, List.sum_cons]; omega
    · unfold sumP at *; simp only [List.map_cons, List.sum_cons]; omega
theorem vsum_take {l : List (Int × Int)} (h : ∀ x ∈ l, 0 < x.2) (k : Nat) : 0 ≤ sumP (l.take k) ∧ sumP (l.take k) ≤ sumP l := by
 have e : sumP l = sumP (l.take k) + sumP (l.drop k) := by
  conv => lhs; rw [← List.take_append_drop k l]
  unfold sumP
  rw [List.map_append, List.sum_append]
 have h1 := vsum_filter (l := l.take k) (fun x hx => h x (List.mem_of_mem_take hx)) (fun _ => true)
 have h2 := vsum_filter (l := l.drop k) (fun x hx => h x (List.mem_of_mem_drop hx)) (fun _ => true)
 omega
theorem up_any (A : Option Addr) (len cap : Nat) (l : List (Int × Int)) (x : Int) (w : World) (hl : l.length = len) (hm : len ≤ 1048576) (hR : RdP w A l) (h : ∀ x ∈ l, 0 < x.2) (hs : sumP l ≤ 9223372036854775807) :
  Calls Tryz.prog 11 #[.slice A len cap, .int .i64 x] w fun e w' => e = .returned (.int .u64 (upV l x)) ∧ Below w.heap.size w w' := by
 have HR := Lib.hid hR
 have H := Lib.hid h
 have HS := Lib.hid hs
 have HL := Lib.hid hl
 clear hR h hs hl
 go_enter Tryz.func11, Tryz.ntmps11
 go_wp2
 go_loopw [5, 7, 10] (fun n _ i wr => ∃ k : Nat, ∃ p : Int, k ≤ len ∧ i = .int .i64 k ∧ n = .int .u64 p ∧ 0 ≤ p ∧ Hid (p = upV (l.take k) x) ∧ Below w.heap.size w wr) (fun _ _ i _ => len - (intOf i).toNat)
 case atStart => exact ⟨0, 0, by omega, rfl, rfl, by omega, rfl, Below.refl _ _⟩
 case round =>
  obtain ⟨k, p, hk, rfl, rfl, hp, HP, hB⟩ := hrel
  have zB := hB.size
  by_cases hlt : k < len
  ·obtain ⟨g, o, rfl, hg, c1, c2⟩ := (HR.out.below hB).at k (by have := HL.out; omega)
   have H1 := Lib.hid (sumP_filter_take l (fun v => decide (v.1 ≤ x)) k (by have := HL.out; omega))
   have H2 := Lib.hid (vsum_filter (l := l.take (k + 1)) (fun x hx => H.out x (List.mem_of_mem_take hx)) (fun v => decide (v.1 ≤ x))).2
   have H3 := Lib.hid (vsum_take H.out (k + 1)).2
   have H4 := Lib.hid (H.out _ (List.getElem_mem (show k < l.length by have := HL.out; omega)))
   obtain ⟨⟨y1, y2⟩, hy⟩ : ∃ y, l[k]'(by have := HL.out; omega) = y := ⟨_, rfl⟩
   rw [hy] at c1 c2 H1 H4
   clear hy HR
   dsimp only at c1 c2 H1 H4
   by_cases ha : y1 ≤ x
   ·rw [if_pos (decide_eq_true ha)] at H1
    have wa : IntKind.u64.wrap (p + y2) = p + y2 := by have h1 := H1.out; have h2 := H2.out; have h3 := HP.out; have h4 := H3.out; have h5 := HS.out; have h6 := H4.out; unfold upV at h3; simp only [IntKind.wrap_u64]; omega
    go_wp2
    go_roundw
    case rel => exact ⟨k + 1, p + y2, by omega, by simp, rfl, by have := H4.out; omega, by have h1 := H1.out; have h2 := HP.out; show _ = _; unfold upV at h2 ⊢; omega, (by repeat (first | with_reducible assumption | with_reducible exact Below.refl _ _ | with_reducible refine Below.drew ?_ | with_reducible refine Below.drewN ?_ _ | with_reducible refine Below.setCell ?_ (by first | omega | (simp; done) | (simp; omega)) _ | with_reducible refine Below.alloc ?_ (by first | omega | (simp; done) | (simp; omega) | (simp [World.setCell]; omega)) _))⟩
    case measure => simp [intOf]; omega
   ·rw [if_neg (by simpa using ha)] at H1
    go_wp2
    go_roundw
    case rel => exact ⟨k + 1, p, by omega, by simp, rfl, hp, by have h1 := H1.out; have h2 := HP.out; show _ = _; unfold upV at h2 ⊢; omega, (by repeat (first | with_reducible assumption | with_reducible exact Below.refl _ _ | with_reducible refine Below.drew ?_ | with_reducible refine Below.drewN ?_ _ | with_reducible refine Below.setCell ?_ (by first | omega | (simp; done) | (simp; omega)) _ | with_reducible refine Below.alloc ?_ (by first | omega | (simp; done) | (simp; omega) | (simp [World.setCell]; omega)) _))⟩
    case measure => simp [intOf]; omega
  ·obtain rfl : k = len := by omega
   have h1 := HP.out
   rw [List.take_of_length_le (by have := HL.out; omega)] at h1
   have H1 := Lib.hid h1
   clear HR HP h1
   go_wp2
   go_ret
   exact ⟨by rw [← H1.out]; rfl, hB⟩
end Go.Proofs.YtlbnlmhcpephbaaGreatDoor
