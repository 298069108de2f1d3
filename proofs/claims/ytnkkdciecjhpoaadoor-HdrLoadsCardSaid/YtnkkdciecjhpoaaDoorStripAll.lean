/- Contracts of package strip: New, Len, Total, At, Pairs, Ends. -/
import Derived.Test.YtnkkdciecjhpoaaDoorProg
import Derived.Test.YtnkkdciecjhpoaaDoorRunsAll
import Derived.Test.YtnkkdciecjhpoaaDoorPlus
import Derived.BigQuiet
import Derived.Deep.QuietTactic
import Derived.WalkMore
import Derived.ScopeJumps
namespace Go.Proofs.YtnkkdciecjhpoaaDoor
open Go.RowKit

structure StripB (w : World) (b : Nat) (A : Option Addr) (c : Nat) (most : Int) (ps : List (Int × Int)) : Prop where
  at' : At w b #[.int .i64 most, .slice A ps.length c, .int .u64 (sumP ps)] 128
  own : Own2 0 w A c ps
  ne : b ∉ blk A
  gd : Gd ps
  ok : okP ps
  sum : sumP ps ≤ 9223372036854775807
  len : (ps.length : Int) ≤ most
  most1 : most ≤ 4096
/-- A strip, and the blocks that are its own. -/
def Strip (w : World) (b : Nat) (S : List Nat) (most : Int) (ps : List (Int × Int)) : Prop := ∃ A c, S = b :: blk A ∧ StripB w b A c most ps

section
variable {w w' : World} {b : Nat} {S T : List Nat} {most : Int} {ps : List (Int × Int)}
theorem Own2.frame {base c : Nat} {A : Option Addr} (h : Own2 base w A c ps) (hf : Frame T w w') (hn : ∀ k ∈ blk A, k ∉ T) : Own2 base w' A c ps := by
  obtain ⟨h1, h2⟩ := h
  refine ⟨h1, ?_⟩
  rcases h2 with h2 | ⟨g, cp, cur, e, hg, hc, r⟩
  · exact .inl h2
  · refine .inr ⟨g, cp, cur, e, hg, (hf.block g (Array.getElem?_eq_some_iff.1 hc).1 (hn g ?_)).trans hc, r⟩
    simp only [Value.slice.injEq] at e
    rw [e.1]
    simp [blk]
theorem Strip.frame (h : Strip w b S most ps) (hf : Frame T w w') (hn : Apart S T) : Strip w' b S most ps := by
  obtain ⟨A, c, rfl, h⟩ := h
  exact ⟨A, c, rfl, hf.at h.at' (hn b (by simp)), h.own.frame hf (fun k hk => hn k (by simp [hk])), h.ne, h.gd, h.ok, h.sum, h.len, h.most1⟩
theorem Strip.below (h : Strip w b S most ps) (hb : Below w.heap.size w w') : Strip w' b S most ps := h.frame (T := []) (Frame.of_below hb) (fun _ _ => by simp)
theorem Strip.lt (h : Strip w b S most ps) : ∀ k ∈ S, k < w.heap.size := by
  obtain ⟨A, c, rfl, h⟩ := h
  intro k hk
  rcases List.mem_cons.1 hk with rfl | hk
  · exact h.at'.lt
  · cases A with
    | none => simp [blk] at hk
    | some a => simp only [blk, List.mem_singleton] at hk; subst hk; exact (h.own.base_le a rfl).2
theorem Strip.gd (h : Strip w b S most ps) : Gd ps := by obtain ⟨A, c, _, h⟩ := h; exact h.gd
theorem Strip.ok (h : Strip w b S most ps) : okP ps := by obtain ⟨A, c, _, h⟩ := h; exact h.ok
theorem Strip.sum (h : Strip w b S most ps) : sumP ps ≤ 9223372036854775807 := by obtain ⟨A, c, _, h⟩ := h; exact h.sum
theorem Strip.len (h : Strip w b S most ps) : (ps.length : Int) ≤ most ∧ ps.length ≤ 4096 := by obtain ⟨A, c, _, h⟩ := h; exact ⟨h.len, by have := h.len; have := h.most1; omega⟩
end

theorem snew_any (most : Int) (w : World) (h1 : 1 ≤ most) (h2 : most ≤ 4096) :
    Calls Tryd.prog 41 #[.int .i64 most] w fun e w' => (∃ b, e = .returned (.tuple #[.pointer (some ⟨b, 0, none⟩), .int .i64 0]) ∧ b = w.heap.size ∧ Strip w' b [b] most []) ∧ Below w.heap.size w w' := by
  have hs : At (w.alloc (.cells #[.int .i64 most, .slice none 0 0, .int .u64 0] 128)) w.heap.size #[.int .i64 most, .slice none 0 0, .int .u64 0] 128 := At.new w _ _
  have HS : Hid (Strip (w.alloc (.cells #[.int .i64 most, .slice none 0 0, .int .u64 0] 128)) w.heap.size [w.heap.size] most []) := ⟨none, 0, rfl, hs, Own2.nil _ _, by simp [blk], Gd.nil, fun x hx => by simp at hx, by rw [sumP_nil]; omega, by simp; omega, h2⟩
  clear hs
  have n1 : ¬ most < 1 := by omega
  have n2 : ¬ 4096 < most := by omega
  clear h1 h2
  go_enter Tryd.func41, Tryd.ntmps41
  go_wp2
  go_ret2
  exact ⟨⟨_, rfl, rfl, HS.out⟩, (by repeat (first | with_reducible assumption | with_reducible exact Below.refl _ _ | with_reducible refine Below.drew ?_ | with_reducible refine Below.drewN ?_ _ | with_reducible refine Below.setCell ?_ (by first | omega | (simp; done) | (simp; omega)) _ | with_reducible refine Below.alloc ?_ (by first | omega | (simp; done) | (simp; omega) | (simp [World.setCell]; omega)) _))⟩
theorem snew_bad (most : Int) (w : World) (h : most < 1 ∨ 4096 < most) :
    Calls Tryd.prog 41 #[.int .i64 most] w fun e w' => e = .returned (.tuple #[.pointer none, .int .i64 1]) ∧ w = w' := by
  by_cases h1 : most < 1
  · clear h
    go_enter Tryd.func41, Tryd.ntmps41
    go_wp2
    go_ret2
    exact ⟨rfl, rfl⟩
  · have h2 : 4096 < most := by omega
    clear h
    go_enter Tryd.func41, Tryd.ntmps41
    go_wp2
    go_ret2
    exact ⟨rfl, rfl⟩

theorem slen_any (b : Nat) (S : List Nat) (most : Int) (ps : List (Int × Int)) (w : World) (h : Strip w b S most ps) :
    Calls Tryd.prog 57 #[.pointer (some ⟨b, 0, none⟩)] w fun e w' => e = .returned (.int .i64 (ps.length : Nat)) ∧ w = w' := by
  obtain ⟨A, c, _, h⟩ := h
  have f1 := h.at'.three
  clear h
  go_enter Tryd.func57, Tryd.ntmps57
  go_wp2
  go_ret
  exact ⟨rfl, rfl⟩
theorem stotal_any (b : Nat) (S : List Nat) (most : Int) (ps : List (Int × Int)) (w : World) (h : Strip w b S most ps) :
    Calls Tryd.prog 50 #[.pointer (some ⟨b, 0, none⟩)] w fun e w' => e = .returned (.int .u64 (sumP ps)) ∧ w = w' := by
  obtain ⟨A, c, _, h⟩ := h
  have f1 := h.at'.three
  clear h
  go_enter Tryd.func50, Tryd.ntmps50
  go_wp2
  go_ret
  exact ⟨rfl, rfl⟩
theorem spairs_any (b : Nat) (S : List Nat) (most : Int) (ps : List (Int × Int)) (w : World) (h : Strip w b S most ps) :
    Calls Tryd.prog 46 #[.pointer (some ⟨b, 0, none⟩)] w fun e w' => CloR ps w e w' := by
  have hl := h.len.2
  obtain ⟨A, c, _, h⟩ := h
  have f1 := h.at'.three
  have HC := Lib.hid (clone_any 0 A c ps w h.own (by omega))
  clear h
  go_enter Tryd.func46, Tryd.ntmps46
  go_wp2_with fail
  refine HC.out.mono ?_
  rintro e w' ⟨A', c', rfl, ho, hb⟩
  have HR : Hid (CloR ps w (.returned (.slice A' ps.length c')) w') := ⟨A', c', rfl, ho, hb⟩
  clear ho hb
  go_wp2
  go_ret
  exact HR.out

set_option maxRecDepth 100000 in
theorem sat_any (b : Nat) (S : List Nat) (most : Int) (ps : List (Int × Int)) (q : Int) (w : World) (h : Strip w b S most ps) :
    Calls Tryd.prog 56 #[.pointer (some ⟨b, 0, none⟩), .int .i64 q] w fun e w' => e = .returned (.int .u64 (cnt ps q)) ∧ Below w.heap.size w w' := by
  have hl := h.len.2
  have hg := h.gd
  obtain ⟨A, c, _, h⟩ := h
  have s1 := h.at'
  have f1 := h.at'.three
  have HC := Lib.hid (rfind06_any A c ps.length ps q w rfl h.own.rd hg (by omega))
  have HO := Lib.hid h.own.rd
  have HG := Lib.hid hg
  clear h hg
  obtain ⟨n, hn⟩ : ∃ n, ps.length = n := ⟨_, rfl⟩
  have HN := Lib.hid hn
  rw [hn] at HC s1 f1
  clear hn
  go_enter Tryd.func56, Tryd.ntmps56
  go_wp2_with fail
  refine HC.out.mono ?_
  rintro e w1 ⟨⟨k, f, rfl, hp, hf⟩, hb1⟩
  have f2 := (s1.below hb1).three
  clear f1
  cases f with
  | true =>
    obtain ⟨hk, hq⟩ := hf.1 rfl
    have HV := Lib.hid (posn_found HG.out hp hk hq).2
    obtain ⟨g, o, rfl, hg, hc1, hc2⟩ := (HO.out.below hb1).at' k hk
    obtain ⟨v, hv⟩ : ∃ v, (ps.getD k (0, 0)).2 = v := ⟨_, rfl⟩
    rw [hv] at hc2 HV
    have k0 : (0 : Int) ≤ k := by omega
    have k1 : (k : Int) < n := by have := HN.out; omega
    clear hf hp hq hk hc1 hv
    go_wp2
    go_ret
    exact ⟨by rw [HV.out]; rfl, hb1⟩
  | false =>
    have HV := Lib.hid (posn_none HG.out hp (fun h => by have := hf.2 h; cases this)).2
    clear hf hp
    go_wp2
    go_ret
    exact ⟨by rw [HV.out]; rfl, hb1⟩

/-- The ends. -/
def endsV (ps : List (Int × Int)) : Value := if ps.length = 0 then .tuple #[.int .i64 0, .int .i64 0, .bool false] else .tuple #[.int .i64 (ps.getD 0 (0, 0)).1, .int .i64 (ps.getD (ps.length - 1) (0, 0)).1, .bool true]
end Go.Proofs.YtnkkdciecjhpoaaDoor
/- Contracts of package strip: Add, take, First, Last. -/
namespace Go.Proofs.YtnkkdciecjhpoaaDoor
open Go.RowKit

/-- Is there room? -/
def stRoom (most : Int) (ps : List (Int × Int)) (q cc : Int) : Prop := cc ≤ 9223372036854775807 - sumP ps ∧ ((rowAdd ps q cc).length : Int) ≤ most
instance (most : Int) (ps : List (Int × Int)) (q cc : Int) : Decidable (stRoom most ps q cc) := by unfold stRoom; infer_instance
def stCode (most : Int) (ps : List (Int × Int)) (q cc : Int) : Int := if 0 < cc then (if stRoom most ps q cc then 0 else 6) else 1
def stStep (most : Int) (ps : List (Int × Int)) (q cc : Int) : List (Int × Int) := if 0 < cc ∧ stRoom most ps q cc then rowAdd ps q cc else ps

theorem rowAdd_length {ps : List (Int × Int)} {q cc : Int} {k : Nat} {f : Bool} (hg : Gd ps) (hp : Posn ps q k) (hf : f = true ↔ k < ps.length ∧ (ps.getD k (0, 0)).1 = q) (hc : 0 < cc) (hs : cnt ps q + cc < 18446744073709551616) :
    (rowAdd ps q cc).length = if f = true then ps.length else ps.length + 1 := by
  rw [rowAdd_eq hg hc hs, posn_lt hp]
  cases f with
  | true =>
    obtain ⟨hk, hq⟩ := hf.1 rfl
    rw [(posn_found hg hp hk hq).1, if_pos rfl]
    simp only [List.length_append, List.length_take, List.length_drop, List.length_singleton]
    omega
  | false =>
    rw [(posn_none hg hp (fun h => by have := hf.2 h; cases this)).1, if_neg (by decide)]
    simp only [List.length_append, List.length_take, List.length_drop, List.length_singleton]
    have := hp.le
    omega

/-- What Add leaves. -/
def SadR (b : Nat) (S : List Nat) (most : Int) (ps : List (Int × Int)) (q cc : Int) (w : World) (e : Ending) (w' : World) : Prop :=
  e = .returned (.int .i64 (stCode most ps q cc)) ∧ ∃ S', GrownS S S' w.heap.size ∧ Strip w' b S' most (stStep most ps q cc) ∧ Frame S w w'

theorem sadd_zero (b : Nat) (S : List Nat) (most : Int) (ps : List (Int × Int)) (q : Int) (w : World) (h : Strip w b S most ps) :
    Calls Tryd.prog 48 #[.pointer (some ⟨b, 0, none⟩), .int .i64 q, .int .u64 0] w fun e w' => SadR b S most ps q 0 w e w' := by
  have HR : Hid (SadR b S most ps q 0 w (.returned (.int .i64 1)) w) := ⟨by unfold stCode; rw [if_neg (by omega)], S, GrownS.refl _ _, by unfold stStep; rw [if_neg (by omega)]; exact h, Frame.refl _ _⟩
  clear h
  go_enter Tryd.func48, Tryd.ntmps48
  go_wp2
  go_ret
  exact HR.out

set_option maxRecDepth 100000 in
set_option maxHeartbeats 4000000 in
theorem sadd_pos (b : Nat) (S : List Nat) (most : Int) (ps : List (Int × Int)) (q cc : Int) (w : World) (h : Strip w b S most ps) (hc : 0 < cc) (hc' : cc < 18446744073709551616) (hq : -9223372036854775808 ≤ q ∧ q ≤ 9223372036854775807) :
    Calls Tryd.prog 48 #[.pointer (some ⟨b, 0, none⟩), .int .i64 q, .int .u64 cc] w fun e w' => SadR b S most ps q cc w e w' := by
  have h0 := h
  obtain ⟨A, c, rfl, hB⟩ := h
  have s1 := hB.at'
  have hs0 := sumP_nonneg hB.gd.pos
  have hle := cnt_le_sumP hB.gd.pos q
  have hsum := hB.sum
  have hl := h0.len
  have HC := Lib.hid (fun W (hb : Below w.heap.size w W) => rfind06_any A c ps.length ps q W rfl (hB.own.rd.below hb) hB.gd (by omega))
  have HB := Lib.hid hB
  have H0 := Lib.hid h0
  have HQ := Lib.hid hq
  obtain ⟨n, hn⟩ : ∃ n, ps.length = n := ⟨_, rfl⟩
  obtain ⟨T, hT⟩ : ∃ T, sumP ps = T := ⟨_, rfl⟩
  have HN := Lib.hid hn
  have HTT := Lib.hid hT
  rw [hn, hT] at s1
  rw [hn] at HC hl
  rw [hT] at hs0 hle hsum
  have f1 := s1.three
  have hcc : (cc == 0) = false := beq_eq_false_iff_ne.2 (by omega)
  have HCC := Lib.hid (And.intro hc (And.intro hc' (And.intro hs0 (And.intro hle (And.intro hsum hl)))))
  have l1 := s1.lt
  clear hB h0 hn hT hq hc hc' hs0 hle hsum hl
  go_enter Tryd.func48, Tryd.ntmps48
  go_wp2_with fail
  have a1 := At.new w #[.int .u64 T, .int .u64 cc] 23
  refine (plus2_any w.heap.size T cc _ (by have := HCC.out; omega) (by have := HCC.out; omega) (by have := HCC.out; omega) (by have := HCC.out; omega) (a1.cell rfl) (a1.cell rfl)).mono ?_
  rintro e w1 ⟨rfl, rfl⟩
  have hb1 : Below w.heap.size w (w.alloc (.cells #[.int .u64 T, .int .u64 cc] 23)) := (by repeat (first | with_reducible assumption | with_reducible exact Below.refl _ _ | with_reducible refine Below.drew ?_ | with_reducible refine Below.drewN ?_ _ | with_reducible refine Below.setCell ?_ (by first | omega | (simp; done) | (simp; omega)) _ | with_reducible refine Below.alloc ?_ (by first | omega | (simp; done) | (simp; omega) | (simp [World.setCell]; omega)) _))
  obtain ⟨W1, hW1⟩ : ∃ W1, w.alloc (.cells #[.int .u64 T, .int .u64 cc] 23) = W1 := ⟨_, rfl⟩
  rw [hW1] at hb1 ⊢
  have f2 := (s1.below hb1).three
  have hP : T + cc ≤ 9223372036854775807 ∨ ¬ T + cc ≤ 9223372036854775807 := by omega
  clear a1 hW1 f1
  rcases hP with hP | hP
  · obtain ⟨p1, p2⟩ := plus2_yes hP
    rw [p1, p2]
    have HP := Lib.hid hP
    clear p1 p2 hP
    go_wp2_with fail
    refine (HC.out W1 hb1).mono ?_
    rintro e w2 ⟨⟨k, f, rfl, hp, hf⟩, hb⟩
    have hb2 := keep1 hb1 hb
    have s3 := s1.below hb2
    have f3 := s3.three
    have hrl := rowAdd_length (f := f) HB.out.gd hp hf HCC.out.1 (by have := HCC.out; have := HP.out; omega)
    rw [HN.out] at hrl
    clear hb hb1 f2 hp hf
    by_cases hfull : f = false ∧ most ≤ n
    · obtain ⟨rfl, hm⟩ := hfull
      have HR : Hid (∀ m, SadR b (b :: blk A) most ps q cc w (.returned (.int .i64 6)) (w2.drewN m)) := fun m => by
        have hnr : ¬ stRoom most ps q cc := fun h => by have := h.2; rw [hrl, if_neg (by decide)] at this; omega
        exact ⟨by unfold stCode; rw [if_pos HCC.out.1, if_neg hnr], _, GrownS.refl _ _, by unfold stStep; rw [if_neg (fun h => hnr h.2)]; exact H0.out.below (hb2.drewN m), Frame.of_below (hb2.drewN m)⟩
      clear hrl hb2
      go_wp2
      go_quiet (fail)
      go_wp2
      go_ret
      exact HR.out _
    · have hroom : stRoom most ps q cc := by
        refine ⟨by have := HP.out; rw [HTT.out]; omega, ?_⟩
        rw [hrl]
        have := HCC.out
        cases f with
        | true => rw [if_pos rfl]; omega
        | false => rw [if_neg (by decide)]; have : ¬ most ≤ n := fun h => hfull ⟨rfl, h⟩; omega
      have HADD : Hid (∀ m, Calls Tryd.prog 73 #[.slice A n c, .int .i64 q, .int .u64 cc] (w2.drewN m) fun e w' => ∃ A' c' len, e = .returned (.slice A' len c') ∧ Hid (SadR b (b :: blk A) most ps q cc w (.returned (.int .i64 0)) ((w'.setCell ⟨b, 1, none⟩ (.slice A' len c')).setCell ⟨b, 2, none⟩ (.int .u64 (T + cc)))) ∧ At w' b #[.int .i64 most, .slice A n c, .int .u64 T] 128) := fun m => by
        have hbm := hb2.drewN m
        have hs := show cnt ps q + cc < 18446744073709551616 by have := HCC.out; have := HP.out; omega
        have := add06_any 0 A c ps q cc (w2.drewN m) (HB.out.own.below hbm) HB.out.gd (by rw [HN.out]; have := HCC.out; omega) HCC.out.1 hs (Nat.zero_le _)
        rw [HN.out] at this
        refine this.mono ?_
        rintro e w' ⟨A', c', rfl, ho, hfr, hk⟩
        have hat := hfr.at (s1.below hbm) HB.out.ne
        have hbn : b ∉ blk A' := fun hm => by
          rcases hk b hm with h | h
          · exact HB.out.ne h
          · have : b < w.heap.size := s1.lt
            have := hbm.size
            omega
        refine ⟨A', c', _, rfl, ⟨by unfold stCode; rw [if_pos HCC.out.1, if_pos hroom], b :: blk A', fun k hm => ?_, ?_, ?_⟩, hat⟩
        · rcases List.mem_cons.1 hm with rfl | hm
          · exact .inl (by simp)
          · rcases hk k hm with h | h
            · exact .inl (by simp [h])
            · exact .inr (Nat.le_trans hbm.size h)
        · unfold stStep
          rw [if_pos ⟨HCC.out.1, hroom⟩]
          refine ⟨A', c', rfl, ?_, ?_, hbn, HB.out.gd.rowAdd HCC.out.1 hs, okP_rowAdd HB.out.ok HQ.out, by rw [sumP_rowAdd HB.out.gd HCC.out.1 hs, HTT.out]; exact HP.out, hroom.2, HB.out.most1⟩
          · rw [sumP_rowAdd HB.out.gd HCC.out.1 hs, HTT.out]
            exact (hat.set_any 1 _ rfl).set_any 2 _ rfl
          · exact (ho.frame (Frame.set [b] _ b 1 _ (by simp)) (fun k hk e => by simp at e; subst e; exact hbn hk)).frame (Frame.set [b] _ b 2 _ (by simp)) (fun k hk e => by simp at e; subst e; exact hbn hk)
        · exact ((((Frame.of_below hbm).trans (hfr.mono fun k hk => by simp [hk])).setc (.inl (by simp)) 1 _).setc (.inl (by simp)) 2 _)
      have hw1 : ¬ (most ≤ n ∧ f = false) := fun h => hfull ⟨h.2, h.1⟩
      have hl3 := s3.lt
      clear hrl hb2 hroom HP HC
      cases f with
      | true =>
        clear hw1 hfull
        go_wp2
        go_quiet (fail)
        go_wp2_with fail
        refine (HADD.out _).mono ?_
        rintro e w4 ⟨A', c', len, rfl, HR, hat⟩
        have f4 := hat.three
        go_wp2
        go_ret
        exact HR.out
      | false =>
        have hm : (n : Int) < most := by
          rcases Int.lt_or_le n most with h | h
          · exact h
          · exact absurd ⟨rfl, h⟩ hfull
        clear hw1 hfull
        go_wp2
        go_quiet (fail)
        go_wp2_with fail
        refine (HADD.out _).mono ?_
        rintro e w4 ⟨A', c', len, rfl, HR, hat⟩
        have f4 := hat.three
        go_wp2
        go_ret
        exact HR.out
  · obtain ⟨p1, p2⟩ := plus2_no hP
    rw [p1, p2]
    have HP := Lib.hid hP
    clear p1 p2 hP
    go_wp2_with fail
    refine (HC.out W1 hb1).mono ?_
    rintro e w2 ⟨⟨k, f, rfl, hp, hf⟩, hb⟩
    have hb2 := keep1 hb1 hb
    have s3 := s1.below hb2
    have f3 := s3.three
    have HR : Hid (∀ m, SadR b (b :: blk A) most ps q cc w (.returned (.int .i64 6)) (w2.drewN m)) := fun m => by
      have hnr : ¬ stRoom most ps q cc := fun h => by have := h.1; rw [HTT.out] at this; have := HP.out; omega
      exact ⟨by unfold stCode; rw [if_pos HCC.out.1, if_neg hnr], _, GrownS.refl _ _, by unfold stStep; rw [if_neg (fun h => hnr h.2)]; exact H0.out.below (hb2.drewN m), Frame.of_below (hb2.drewN m)⟩
    clear hb hb1 f2 hp hf hb2
    go_wp2
    go_quiet (fail)
    go_wp2
    go_ret
    exact HR.out _

theorem sadd_any (b : Nat) (S : List Nat) (most : Int) (ps : List (Int × Int)) (q cc : Int) (w : World) (h : Strip w b S most ps) (hc : 0 ≤ cc) (hc' : cc < 18446744073709551616) (hq : -9223372036854775808 ≤ q ∧ q ≤ 9223372036854775807) :
    Calls Tryd.prog 48 #[.pointer (some ⟨b, 0, none⟩), .int .i64 q, .int .u64 cc] w fun e w' => SadR b S most ps q cc w e w' := by
  by_cases h0 : cc = 0
  · subst h0; exact sadd_zero b S most ps q w h
  · exact sadd_pos b S most ps q cc w h (by omega) hc' hq
end Go.Proofs.YtnkkdciecjhpoaaDoor
/- Contracts of package strip: take, First, Last. -/
namespace Go.Proofs.YtnkkdciecjhpoaaDoor
open Go.RowKit

/-- A pair leaves the row. -/
def outF (ps : List (Int × Int)) (i : Nat) : List (Int × Int) := ps.take i ++ ps.drop (i + 1)
theorem outF_split {ps : List (Int × Int)} {i : Nat} (hi : i < ps.length) : ps = ps.take i ++ ps.getD i (0, 0) :: ps.drop (i + 1) := by rw [← drop_cons hi, List.take_append_drop]
theorem gd_outF {ps : List (Int × Int)} (h : Gd ps) (i : Nat) : Gd (outF ps i) := by
  have hsub : (outF ps i).Sublist ps := by
    unfold outF
    conv => rhs; rw [← List.take_append_drop i ps]
    refine List.Sublist.append (List.Sublist.refl _) ?_
    rw [show ps.drop (i + 1) = (ps.drop i).drop 1 by rw [List.drop_drop]]
    exact List.drop_sublist _ _
  exact ⟨h.srt.sublist hsub, fun x hx => h.pos x (hsub.subset hx)⟩
theorem outF_mem {ps : List (Int × Int)} {i : Nat} {x : Int × Int} (h : x ∈ outF ps i) : x ∈ ps := by
  unfold outF at h
  rcases List.mem_append.1 h with h | h
  · exact List.mem_of_mem_take h
  · exact List.mem_of_mem_drop h
theorem sumP_outF {ps : List (Int × Int)} {i : Nat} (hi : i < ps.length) : sumP (outF ps i) = sumP ps - (ps.getD i (0, 0)).2 := by
  have e := congrArg sumP (outF_split hi)
  rw [sumP_append, sumP_cons] at e
  unfold outF
  rw [sumP_append]
  omega
theorem outF_length {ps : List (Int × Int)} {i : Nat} (hi : i < ps.length) : (outF ps i).length = ps.length - 1 := by
  unfold outF
  rw [List.length_append, List.length_take, List.length_drop]
  omega

/-- What take leaves. -/
def TakR (b : Nat) (S : List Nat) (most : Int) (ps : List (Int × Int)) (i : Nat) (w : World) (e : Ending) (w' : World) : Prop :=
  e = .returned (.tuple #[.agg #[.int .i64 (ps.getD i (0, 0)).1, .int .u64 (ps.getD i (0, 0)).2], .bool true]) ∧ Strip w' b S most (outF ps i) ∧ Frame S w w'

/-- What the region's loads read. -/
def TakS (b pb : Nat) (T x y : Int) (W : World) : Prop := W.cell? ⟨b, 2, none⟩ = some (.int .u64 T) ∧ At W pb #[.int .i64 x, .int .u64 y] 66
theorem TakS.one {b pb : Nat} {T x y : Int} {W : World} (h : TakS b pb T x y W) : W.cell? ⟨b, 2, none⟩ = some (.int .u64 T) := h.1
theorem TakS.two {b pb : Nat} {T x y : Int} {W : World} (h : TakS b pb T x y W) : At W pb #[.int .i64 x, .int .u64 y] 66 := h.2


end Go.Proofs.YtnkkdciecjhpoaaDoor
/- Contracts of package strip: First, Last; a nil strip. -/
namespace Go.Proofs.YtnkkdciecjhpoaaDoor
open Go.RowKit

/-- What leaves, and what is left. -/
def outV (ps : List (Int × Int)) (i : Nat) : Value := if ps.length = 0 then .tuple #[.agg #[.int .i64 0, .int .u64 0], .bool false] else .tuple #[.agg #[.int .i64 (ps.getD i (0, 0)).1, .int .u64 (ps.getD i (0, 0)).2], .bool true]
def outR (b : Nat) (S : List Nat) (most : Int) (ps : List (Int × Int)) (i : Nat) (w : World) (e : Ending) (w' : World) : Prop :=
  e = .returned (outV ps i) ∧ Strip w' b S most (if ps.length = 0 then ps else outF ps i) ∧ Frame S w w'
theorem outR_some {b : Nat} {S : List Nat} {most : Int} {ps : List (Int × Int)} {i : Nat} {w w' : World} (h : ps.length ≠ 0) (h1 : Strip w' b S most (outF ps i)) (h2 : Frame S w w') :
    outR b S most ps i w (.returned (.tuple #[.agg #[.int .i64 (ps.getD i (0, 0)).1, .int .u64 (ps.getD i (0, 0)).2], .bool true])) w' := ⟨by unfold outV; rw [if_neg h], by rw [if_neg h]; exact h1, h2⟩
theorem outR_none {b : Nat} {S : List Nat} {most : Int} {ps : List (Int × Int)} {i : Nat} {w w' : World} (h : ps.length = 0) (h1 : Strip w' b S most ps) (h2 : Frame S w w') :
    outR b S most ps i w (.returned (.tuple #[.agg #[.int .i64 0, .int .u64 0], .bool false])) w' := ⟨by unfold outV; rw [if_pos h], by rw [if_pos h]; exact h1, h2⟩


/-! A nil strip. -/
theorem snil_add (q c : Int) (w : World) : Calls Tryd.prog 48 #[.pointer none, .int .i64 q, .int .u64 c] w fun e w' => e = .returned (.int .i64 2) ∧ w = w' := by
  go_enter Tryd.func48, Tryd.ntmps48
  go_wp2
  go_ret
  exact ⟨rfl, rfl⟩
theorem snil_at (q : Int) (w : World) : Calls Tryd.prog 56 #[.pointer none, .int .i64 q] w fun e w' => e = .returned (.int .u64 0) ∧ w = w' := by
  go_enter Tryd.func56, Tryd.ntmps56
  go_wp2
  go_ret
  exact ⟨rfl, rfl⟩
theorem snil_total (w : World) : Calls Tryd.prog 50 #[.pointer none] w fun e w' => e = .returned (.int .u64 0) ∧ w = w' := by
  go_enter Tryd.func50, Tryd.ntmps50
  go_wp2
  go_ret
  exact ⟨rfl, rfl⟩
theorem snil_len (w : World) : Calls Tryd.prog 57 #[.pointer none] w fun e w' => e = .returned (.int .i64 0) ∧ w = w' := by
  go_enter Tryd.func57, Tryd.ntmps57
  go_wp2
  go_ret
  exact ⟨rfl, rfl⟩
theorem snil_pairs (w : World) : Calls Tryd.prog 46 #[.pointer none] w fun e w' => e = .returned (.slice none 0 0) ∧ w = w' := by
  go_enter Tryd.func46, Tryd.ntmps46
  go_wp2
  go_ret
  exact ⟨rfl, rfl⟩
end Go.Proofs.YtnkkdciecjhpoaaDoor
/- Contract of package strip: Find. -/
namespace Go.Proofs.YtnkkdciecjhpoaaDoor
open Go.RowKit

theorem snil_find (t : Int) (w : World) : Calls Tryd.prog 66 #[.pointer none, .int .u64 t] w fun e w' => e = .returned (.tuple #[.int .i64 0, .bool false]) ∧ w = w' := by
  go_enter Tryd.func66, Tryd.ntmps66
  go_wp2
  go_step3
  go_wp2
  simp only [Exit.noGoto]
  go_ret2
  exact ⟨rfl, rfl⟩

/-- What is still to be found. -/
def FndI (ps : List (Int × Int)) (t : Int) (i : Nat) (r : Int) : Prop := 0 < r ∧ r ≤ sumP (ps.drop i) ∧ ∃ s, 0 ≤ s ∧ t = s + r ∧ s + sumP (ps.drop i) ≤ 9223372036854775807 ∧ findP t 0 ps = findP t s (ps.drop i)
theorem FndI.lt {ps : List (Int × Int)} {t r : Int} {i : Nat} (h : FndI ps t i r) : i < ps.length := by
  rcases Nat.lt_or_ge i ps.length with h1 | h1
  · exact h1
  · have := h.2.1
    rw [List.drop_of_length_le h1, sumP_nil] at this
    have := h.1
    omega
theorem FndI.here {ps : List (Int × Int)} {t r : Int} {i : Nat} (hg : Gd ps) (h : FndI ps t i r) (hv : r ≤ (ps.getD i (0, 0)).2) : findP t 0 ps = some (ps.getD i (0, 0)).1 := by
  have hl := h.lt
  obtain ⟨h1, h2, s, h3, h4, h5, h6⟩ := h
  have hp := hg.pos _ (getD_mem' hl)
  have hd := sumP_nonneg (ps := ps.drop (i + 1)) (fun x hx => hg.pos x (List.mem_of_mem_drop hx))
  rw [drop_cons hl, sumP_cons] at h5
  rw [h6, drop_cons hl, findP, Int.emod_eq_of_lt (by omega) (by omega), if_pos (by omega)]
theorem FndI.next {ps : List (Int × Int)} {t r : Int} {i : Nat} (hg : Gd ps) (h : FndI ps t i r) (hv : ¬ r ≤ (ps.getD i (0, 0)).2) : FndI ps t (i + 1) (r - (ps.getD i (0, 0)).2) := by
  have hl := h.lt
  obtain ⟨h1, h2, s, h3, h4, h5, h6⟩ := h
  have hp := hg.pos _ (getD_mem' hl)
  have hd := sumP_nonneg (ps := ps.drop (i + 1)) (fun x hx => hg.pos x (List.mem_of_mem_drop hx))
  rw [drop_cons hl, sumP_cons] at h5 h2
  refine ⟨by omega, by omega, s + (ps.getD i (0, 0)).2, by omega, by omega, by omega, ?_⟩
  rw [h6, drop_cons hl, findP, Int.emod_eq_of_lt (by omega) (by omega), if_neg (by omega)]
theorem FndI.zero {ps : List (Int × Int)} {t : Int} (h0 : 0 < t) (h1 : t ≤ sumP ps) (h2 : sumP ps ≤ 9223372036854775807) : FndI ps t 0 t := ⟨h0, h1, 0, by omega, by omega, by simpa using h2, rfl⟩
theorem findP_over : ∀ {ps : List (Int × Int)} {t s : Int}, Gd ps → 0 ≤ s → s + sumP ps < t → s + sumP ps < 18446744073709551616 → findP t s ps = none
  | [], t, s, _, _, _, _ => rfl
  | x :: ps, t, s, hg, h0, h1, h2 => by
    have hx := hg.pos x (by simp)
    have hd := sumP_nonneg hg.tail.pos
    rw [sumP_cons] at h1 h2
    rw [findP, Int.emod_eq_of_lt (by omega) (by omega), if_neg (by omega)]
    exact findP_over hg.tail (by omega) (by omega) (by omega)

set_option maxRecDepth 100000 in
set_option maxHeartbeats 2000000 in
theorem sfind_any (b : Nat) (S : List Nat) (most : Int) (ps : List (Int × Int)) (t : Int) (w : World) (h : Strip w b S most ps) (ht : 0 ≤ t ∧ t < 18446744073709551616) :
    Calls Tryd.prog 66 #[.pointer (some ⟨b, 0, none⟩), .int .u64 t] w fun e w' => e = .returned (optI (findP t 0 ps)) ∧ w = w' := by
  have hl := h.len.2
  have hg := Lib.hid h.gd
  have hsm := h.sum
  obtain ⟨A, c, _, h⟩ := h
  have s1 := h.at'
  have f1 := s1.three
  have HO := Lib.hid h.own.rd
  obtain ⟨n, hn⟩ : ∃ n, ps.length = n := ⟨_, rfl⟩
  obtain ⟨T, hT⟩ : ∃ T, sumP ps = T := ⟨_, rfl⟩
  have HN := Lib.hid hn
  have HT := Lib.hid hT
  rw [hn, hT] at f1
  rw [hT] at hsm
  obtain ⟨ht0, ht1⟩ := ht
  clear hT h s1
  by_cases h0 : t = 0
  · subst h0
    have HZ := Lib.hid (findP_zero ps 0)
    clear hn hl ht0 ht1 hsm
    go_enter Tryd.func66, Tryd.ntmps66
    go_wp2
    go_step3
    go_wp2
    simp only [Exit.noGoto]
    go_ret2
    exact ⟨by rw [HZ.out]; rfl, rfl⟩
  by_cases h1 : T < t
  · have h0' : (t == 0) = false := beq_eq_false_iff_ne.2 h0
    have HZ := Lib.hid (findP_over (t := t) (s := 0) hg.out (by omega) (by rw [HT.out]; omega) (by rw [HT.out]; omega))
    clear hn hl ht0 ht1 hsm h0
    go_enter Tryd.func66, Tryd.ntmps66
    go_wp2
    go_step3
    go_wp2
    simp only [Exit.noGoto]
    go_ret2
    exact ⟨by rw [HZ.out]; rfl, rfl⟩
  have h0' : (t == 0) = false := beq_eq_false_iff_ne.2 h0
  have HI := Lib.hid (FndI.zero (ps := ps) (t := t) (by omega) (by rw [HT.out]; omega) (by rw [HT.out]; exact hsm))
  have hlt0 : 0 < n := by have := HI.out.lt; omega
  obtain ⟨g, rfl⟩ : ∃ g, A = some g := by
    obtain ⟨g, o, e, _⟩ := HO.out.at' 0 (by omega)
    exact ⟨⟨g, o, none⟩, e⟩
  have hbnd : Hid (t ≤ 9223372036854775807) := show t ≤ _ by omega
  clear hn h0 ht0 ht1 hsm
  go_enter Tryd.func66, Tryd.ntmps66
  go_wp2
  refine wp_scope_jumps 0 (fun a' w' => ∃ (i : Nat) (r : Int) (u2 u3 u4 u5 u7 u8 u9 u10 u11 u12 u13 u14 u15 u16 u17 u18 u19 u20 u21 u22 u23 u24 u25 u26 u27 u28 u29 u30 u31 u32 u33 u34 u35 u36 u37 u38 u39 u40 u41 u42 u43 u44 u45 u46 u47 u48 u49 u50 : Value), a' = { tmps := #[.pointer (some ⟨b, 0, none⟩), .int .u64 r, u2, u3, u4, u5, .int .i64 i, u7, u8, u9, u10, u11, u12, u13, u14, u15, u16, u17, u18, u19, u20, u21, u22, u23, u24, u25, u26, u27, u28, u29, u30, u31, u32, u33, u34, u35, u36, u37, u38, u39, u40, u41, u42, u43, u44, u45, u46, u47, u48, u49, u50], defers := [] } ∧ Hid (FndI ps t i r) ∧ w = w') (fun a' _ => n - (intOf (a'.tmps.getD 6 undef)).toNat) rfl ?_ ?_
  · have hlt := hlt0
    obtain ⟨g', o, e, hg', c1, c2⟩ := HO.out.at' 0 (by have := HN.out; omega)
    cases e
    obtain ⟨x, hx⟩ : ∃ x, (ps.getD 0 (0, 0)).1 = x := ⟨_, rfl⟩
    obtain ⟨v, hv⟩ : ∃ v, (ps.getD 0 (0, 0)).2 = v := ⟨_, rfl⟩
    have HX := Lib.hid (And.intro hx hv)
    rw [hx] at c1
    rw [hv] at c2
    rw [Nat.zero_mul, Nat.add_zero] at c1 c2
    have k1 : (0 : Int) < n := by omega
    clear hx hv
    by_cases hle : v < t
    · have HV := Lib.hid (FndI.next hg.out HI.out (by rw [HX.out.2]; omega))
      have hw : IntKind.u64.wrap (t - v) = t - v := by simp only [IntKind.wrap_u64]; have := hbnd.out; have := hg.out.pos _ (getD_mem' (show 0 < ps.length by rw [HN.out]; exact hlt)); rw [HX.out.2] at this; omega
      clear hlt0 hlt
      go_wp2
      go_step3
      go_wp2
      go_step3
      refine ⟨rfl, ?_⟩
      exact ⟨1, t - v, _, _, _, _, _, _, _, _, _, _, _, _, _, _, _, _, _, _, _, _, _, _, _, _, _, _, _, _, _, _, _, _, _, _, _, _, _, _, _, _, _, _, _, _, _, _, _, _, rfl, by rw [HX.out.2] at HV; exact HV, rfl⟩
    · have HV := Lib.hid (FndI.here hg.out HI.out (by rw [HX.out.2]; omega))
      clear hlt0 hlt
      go_wp2
      go_step3
      go_wp2
      simp only [Exit.jump]
      go_ret2
      exact ⟨by rw [HV.out, HX.out.1]; rfl, rfl⟩
  · rintro a' w' ⟨i, r, u2, u3, u4, u5, u7, u8, u9, u10, u11, u12, u13, u14, u15, u16, u17, u18, u19, u20, u21, u22, u23, u24, u25, u26, u27, u28, u29, u30, u31, u32, u33, u34, u35, u36, u37, u38, u39, u40, u41, u42, u43, u44, u45, u46, u47, u48, u49, u50, rfl, HJ, rfl⟩
    have hi : i < n := by have := HJ.out.lt; have := HN.out; omega
    obtain ⟨g', o, e, hg', c1, c2⟩ := HO.out.at' i (by have := HN.out; omega)
    cases e
    obtain ⟨x, hx⟩ : ∃ x, (ps.getD i (0, 0)).1 = x := ⟨_, rfl⟩
    obtain ⟨v, hv⟩ : ∃ v, (ps.getD i (0, 0)).2 = v := ⟨_, rfl⟩
    have HX := Lib.hid (And.intro hx hv)
    rw [hx] at c1
    rw [hv] at c2
    have k0 : (0 : Int) ≤ i := by omega
    have k1 : (i : Int) < n := by omega
    clear hx hv
    by_cases hle : v < r
    · have HV := Lib.hid (FndI.next hg.out HJ.out (by rw [HX.out.2]; omega))
      have hw : IntKind.u64.wrap (r - v) = r - v := by
        simp only [IntKind.wrap_u64]
        have h1 := hbnd.out
        have h2 := hg.out.pos _ (getD_mem' (show i < ps.length by rw [HN.out]; exact hi))
        rw [HX.out.2] at h2
        obtain ⟨_, _, s, hs, h3, _⟩ := HJ.out
        omega
      have hw2 : IntKind.i64.wrap ((i : Int) + 1) = ((i + 1 : Nat) : Int) := by simp only [IntKind.wrap_i64]; have := HN.out; omega
      clear hlt0
      go_wp2
      go_step3
      refine ⟨rfl, ?_, ?_⟩
      · exact ⟨i + 1, r - v, _, _, _, _, _, _, _, _, _, _, _, _, _, _, _, _, _, _, _, _, _, _, _, _, _, _, _, _, _, _, _, _, _, _, _, _, _, _, _, _, _, _, _, _, _, _, _, _, rfl, by rw [HX.out.2] at HV; exact HV, rfl⟩
      · simp [intOf]; omega
    · have HV := Lib.hid (FndI.here hg.out HJ.out (by rw [HX.out.2]; omega))
      clear hlt0
      go_wp2
      simp only [Exit.jump]
      go_ret2
      exact ⟨by rw [HV.out, HX.out.1]; rfl, rfl⟩
end Go.Proofs.YtnkkdciecjhpoaaDoor
/- Contract of package strip: Below. -/
namespace Go.Proofs.YtnkkdciecjhpoaaDoor
open Go.RowKit

theorem snil_below (q : Int) (w : World) : Calls Tryd.prog 60 #[.pointer none, .int .i64 q] w fun e w' => e = .returned (.int .u64 0) ∧ Below w.heap.size w w' := by
  go_enter Tryd.func60, Tryd.ntmps60
  go_wp2_with fail
  refine (snil_pairs w).mono ?_
  rintro e w1 ⟨rfl, rfl⟩
  go_wp2
  go_loopw [5, 7, 11] (fun n _ i wr => n = .int .u64 0 ∧ i = .int .i64 0 ∧ Below w.heap.size w wr) (fun _ _ _ _ => 0)
  case atStart => exact ⟨rfl, rfl, Below.refl _ _⟩
  case round =>
    obtain ⟨rfl, rfl, hB⟩ := hrel
    go_wp2
    go_ret
    exact ⟨rfl, hB⟩

theorem sbelow_any (b : Nat) (S : List Nat) (most : Int) (ps : List (Int × Int)) (q : Int) (w : World) (h : Strip w b S most ps) :
    Calls Tryd.prog 60 #[.pointer (some ⟨b, 0, none⟩), .int .i64 q] w fun e w' => e = .returned (.int .u64 (upto ps q)) ∧ Below w.heap.size w w' := by
  have hl := h.len.2
  have HO := Lib.hid h.ok
  have HG := Lib.hid h.gd
  have HS0 := Lib.hid h.sum
  have HP := Lib.hid (spairs_any b S most ps w h)
  obtain ⟨len, hlen⟩ : ∃ len, ps.length = len := ⟨_, rfl⟩
  rw [hlen] at hl
  clear h
  go_enter Tryd.func60, Tryd.ntmps60
  go_wp2_with fail
  refine HP.out.mono ?_
  rintro e w1 ⟨A', c', rfl, ho, hb1⟩
  have HR := Lib.hid ho.rd
  rw [hlen]
  have z1 := hb1.size
  clear ho HP
  go_wp2
  go_loopw [5, 7, 11] (fun n _ i wr => ∃ k : Nat, ∃ m : Int, k ≤ len ∧ 0 ≤ m ∧ m ≤ 9223372036854775807 ∧ n = .int .u64 m ∧ i = .int .i64 k ∧ Hid (m = sumP ((ps.take k).filter fun x => decide (x.1 ≤ q))) ∧ Below w1.heap.size w1 wr) (fun _ _ i _ => len - (intOf i).toNat)
  case atStart => exact ⟨0, 0, by omega, by omega, by omega, rfl, rfl, rfl, Below.refl _ _⟩
  case round =>
    obtain ⟨k, m, hk, hm0, hm', rfl, rfl, HF, hB⟩ := hrel
    have zB := hB.size
    by_cases hlt : k < len
    · obtain ⟨g, o, rfl, hg, c1, c2⟩ := (HR.out.below hB).at k (by omega)
      obtain ⟨⟨b1, b2⟩, b3, b4⟩ := HO.out.at k (by omega)
      have HS := Lib.hid (sumP_filter_take ps (fun x => decide (x.1 ≤ q)) k (by omega))
      have hle1 := (sumP_filter_le (ps := ps.take (k + 1)) (fun x hx => HG.out.pos x (List.mem_of_mem_take hx)) (fun x => decide (x.1 ≤ q))).2
      have hle2 : sumP (ps.take (k + 1)) ≤ sumP ps := by
        have e := congrArg sumP (List.take_append_drop (k + 1) ps)
        rw [sumP_append] at e
        have := sumP_nonneg (ps := ps.drop (k + 1)) (fun x hx => HG.out.pos x (List.mem_of_mem_drop hx))
        omega
      have hle := Int.le_trans (Int.le_trans hle1 hle2) HS0.out
      clear hle1 hle2
      obtain ⟨⟨x, y⟩, hx⟩ : ∃ x, ps[k]'(by omega) = x := ⟨_, rfl⟩
      rw [HS.out] at hle
      rw [hx] at c1 c2 b1 b2 b3 b4 HS hle
      clear hx HR HO
      dsimp only at c1 c2 b1 b2 b3 b4 HS hle
      by_cases hc : x ≤ q
      · rw [if_pos (decide_eq_true hc)] at HS hle
        rw [← HF.out] at hle
        go_wp2
        go_roundw
        case rel => exact ⟨k + 1, m + y, by omega, by omega, by omega, by simp [IntKind.wrap_u64] <;> omega, rfl, Lib.hid (by have h1 := HS.out; have h2 := HF.out; omega), (by repeat (first | with_reducible assumption | with_reducible exact Below.refl _ _ | with_reducible refine Below.drew ?_ | with_reducible refine Below.drewN ?_ _ | with_reducible refine Below.setCell ?_ (by first | omega | (simp; done) | (simp; omega)) _ | with_reducible refine Below.alloc ?_ (by first | omega | (simp; done) | (simp; omega) | (simp [World.setCell]; omega)) _))⟩
        case measure => simp [intOf]; omega
      · rw [if_neg (by simpa using hc)] at HS
        clear hle
        go_wp2
        go_roundw
        case rel => exact ⟨k + 1, m, by omega, by omega, by omega, rfl, rfl, Lib.hid (by have h1 := HS.out; have h2 := HF.out; omega), (by repeat (first | with_reducible assumption | with_reducible exact Below.refl _ _ | with_reducible refine Below.drew ?_ | with_reducible refine Below.drewN ?_ _ | with_reducible refine Below.setCell ?_ (by first | omega | (simp; done) | (simp; omega)) _ | with_reducible refine Below.alloc ?_ (by first | omega | (simp; done) | (simp; omega) | (simp [World.setCell]; omega)) _))⟩
        case measure => simp [intOf]; omega
    · obtain rfl : k = len := by omega
      have h := HF.out
      rw [List.take_of_length_le (by omega)] at h
      replace h := Lib.hid h
      clear HR HO HF
      go_wp2
      go_ret
      exact ⟨by rw [show upto ps q = m from h.out.symm]; rfl, keep1 hb1 hB⟩
end Go.Proofs.YtnkkdciecjhpoaaDoor
