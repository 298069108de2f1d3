/- Contracts of package strip: Add, take, First, Last. -/
import Derived.Test.YtooojpicbbpaaaaProg
import Derived.Test.YtooojpicbbpaaaaStrip
namespace Go.Proofs.Ytooojpicbbpaaaa
open Go.RowKit

/-- Is there room? -/
def stRoom (most : Int) (ps : List (Int × Int)) (q cc : Int) : Prop := cc ≤ 9223372036854775807 - sumP ps ∧ ((rowAdd ps q cc).length : Int) ≤ most
instance (most : Int) (ps : List (Int × Int)) (q cc : Int) : Decidable (stRoom most ps q cc) := by unfold stRoom; infer_instance
def stCode (most : Int) (ps : List (Int × Int)) (q cc : Int) : Int := if 0 < cc then (if stRoom most ps q cc then 0 else 6) else 1
def stStep (most : Int) (ps : List (Int × Int)) (q cc : Int) : List (Int × Int) := if 0 < cc ∧ stRoom most ps q cc then rowAdd ps q cc else ps

theorem rowAdd_length {ps : List (Int × Int)} {q cc : Int} {k : Nat} {f : Bool} (hg : Gd ps) (hp : Posn ps q k) (hf : f = true ↔ k < ps.length ∧ (ps.getD k (0, 0)).1 = q) (hc : 0 < cc) (hs : cnt ps q + cc < 18446744073709551616) :
    (rowAdd ps q cc).length = if f = true then ps.length else ps.length + 1 := by
  rw [rowAdd_eq hg hc hs, posn_lt hp]
  cases f with
  | true =>
    obtain ⟨hk, hq⟩ := hf.1 rfl
    rw [(posn_found hg hp hk hq).1, if_pos rfl]
    simp only [List.length_append, List.length_take, List.length_drop, List.length_singleton]
    omega
  | false =>
    rw [(posn_none hg hp (fun h => by have := hf.2 h; cases this)).1, if_neg (by decide)]
    simp only [List.length_append, List.length_take, List.length_drop, List.length_singleton]
    have := hp.le
    omega

/-- What Add leaves. -/
def SadR (b : Nat) (S : List Nat) (most : Int) (ps : List (Int × Int)) (q cc : Int) (w : World) (e : Ending) (w' : World) : Prop :=
  e = .returned (.int .i64 (stCode most ps q cc)) ∧ ∃ S', GrownS S S' w.heap.size ∧ Strip w' b S' most (stStep most ps q cc) ∧ Frame S w w'

theorem sadd_zero (b : Nat) (S : List Nat) (most : Int) (ps : List (Int × Int)) (q : Int) (w : World) (h : Strip w b S most ps) :
    Calls Try.prog 45 #[.pointer (some ⟨b, 0, none⟩), .int .i64 q, .int .u64 0] w fun e w' => SadR b S most ps q 0 w e w' := by
  have HR : Hid (SadR b S most ps q 0 w (.returned (.int .i64 1)) w) := ⟨by unfold stCode; rw [if_neg (by omega)], S, GrownS.refl _ _, by unfold stStep; rw [if_neg (by omega)]; exact h, Frame.refl _ _⟩
  clear h
  go_enter Try.func45, Try.ntmps45
  go_wp2
  go_ret
  exact HR.out

set_option maxRecDepth 100000 in
set_option maxHeartbeats 4000000 in
theorem sadd_pos (b : Nat) (S : List Nat) (most : Int) (ps : List (Int × Int)) (q cc : Int) (w : World) (h : Strip w b S most ps) (hc : 0 < cc) (hc' : cc < 18446744073709551616) (hq : -9223372036854775808 ≤ q ∧ q ≤ 9223372036854775807) :
    Calls Try.prog 45 #[.pointer (some ⟨b, 0, none⟩), .int .i64 q, .int .u64 cc] w fun e w' => SadR b S most ps q cc w e w' := by
  have h0 := h
  obtain ⟨A, c, rfl, hB⟩ := h
  have s1 := hB.at'
  have hs0 := sumP_nonneg hB.gd.pos
  have hle := cnt_le_sumP hB.gd.pos q
  have hsum := hB.sum
  have hl := h0.len
  have HC := Lib.hid (fun W (hb : Below w.heap.size w W) => rfind06_any A c ps.length ps q W rfl (hB.own.rd.below hb) hB.gd (by omega))
  have HB := Lib.hid hB
  have H0 := Lib.hid h0
  have HQ := Lib.hid hq
  obtain ⟨n, hn⟩ : ∃ n, ps.length = n := ⟨_, rfl⟩
  obtain ⟨T, hT⟩ : ∃ T, sumP ps = T := ⟨_, rfl⟩
  have HN := Lib.hid hn
  have HTT := Lib.hid hT
  rw [hn, hT] at s1
  rw [hn] at HC hl
  rw [hT] at hs0 hle hsum
  have f1 := s1.three
  have hcc : (cc == 0) = false := beq_eq_false_iff_ne.2 (by omega)
  have HCC := Lib.hid (And.intro hc (And.intro hc' (And.intro hs0 (And.intro hle (And.intro hsum hl)))))
  have l1 := s1.lt
  clear hB h0 hn hT hq hc hc' hs0 hle hsum hl
  go_enter Try.func45, Try.ntmps45
  go_wp2_with fail
  have a1 := At.new w #[.int .u64 T, .int .u64 cc] 32
  refine (plus2_any w.heap.size T cc _ (by have := HCC.out; omega) (by have := HCC.out; omega) (by have := HCC.out; omega) (by have := HCC.out; omega) (a1.cell rfl) (a1.cell rfl)).mono ?_
  rintro e w1 ⟨rfl, rfl⟩
  have hb1 : Below w.heap.size w (w.alloc (.cells #[.int .u64 T, .int .u64 cc] 32)) := (by repeat (first | with_reducible assumption | with_reducible exact Below.refl _ _ | with_reducible refine Below.drew ?_ | with_reducible refine Below.drewN ?_ _ | with_reducible refine Below.setCell ?_ (by first | omega | (simp; done) | (simp; omega)) _ | with_reducible refine Below.alloc ?_ (by first | omega | (simp; done) | (simp; omega) | (simp [World.setCell]; omega)) _))
  obtain ⟨W1, hW1⟩ : ∃ W1, w.alloc (.cells #[.int .u64 T, .int .u64 cc] 32) = W1 := ⟨_, rfl⟩
  rw [hW1] at hb1 ⊢
  have f2 := (s1.below hb1).three
  have hP : T + cc ≤ 9223372036854775807 ∨ ¬ T + cc ≤ 9223372036854775807 := by omega
  clear a1 hW1 f1
  rcases hP with hP | hP
  · obtain ⟨p1, p2⟩ := plus2_yes hP
    rw [p1, p2]
    have HP := Lib.hid hP
    clear p1 p2 hP
    go_wp2_with fail
    refine (HC.out W1 hb1).mono ?_
    rintro e w2 ⟨⟨k, f, rfl, hp, hf⟩, hb⟩
    have hb2 := keep1 hb1 hb
    have s3 := s1.below hb2
    have f3 := s3.three
    have hrl := rowAdd_length (f := f) HB.out.gd hp hf HCC.out.1 (by have := HCC.out; have := HP.out; omega)
    rw [HN.out] at hrl
    clear hb hb1 f2 hp hf
    by_cases hfull : f = false ∧ most ≤ n
    · obtain ⟨rfl, hm⟩ := hfull
      have HR : Hid (∀ m, SadR b (b :: blk A) most ps q cc w (.returned (.int .i64 6)) (w2.drewN m)) := fun m => by
        have hnr : ¬ stRoom most ps q cc := fun h => by have := h.2; rw [hrl, if_neg (by decide)] at this; omega
        exact ⟨by unfold stCode; rw [if_pos HCC.out.1, if_neg hnr], _, GrownS.refl _ _, by unfold stStep; rw [if_neg (fun h => hnr h.2)]; exact H0.out.below (hb2.drewN m), Frame.of_below (hb2.drewN m)⟩
      clear hrl hb2
      go_wp2
      go_quiet (fail)
      go_wp2
      go_ret
      exact HR.out _
    · have hroom : stRoom most ps q cc := by
        refine ⟨by have := HP.out; rw [HTT.out]; omega, ?_⟩
        rw [hrl]
        have := HCC.out
        cases f with
        | true => rw [if_pos rfl]; omega
        | false => rw [if_neg (by decide)]; have : ¬ most ≤ n := fun h => hfull ⟨rfl, h⟩; omega
      have HADD : Hid (∀ m, Calls Try.prog 51 #[.slice A n c, .int .i64 q, .int .u64 cc] (w2.drewN m) fun e w' => ∃ A' c' len, e = .returned (.slice A' len c') ∧ Hid (SadR b (b :: blk A) most ps q cc w (.returned (.int .i64 0)) ((w'.setCell ⟨b, 1, none⟩ (.slice A' len c')).setCell ⟨b, 2, none⟩ (.int .u64 (T + cc)))) ∧ At w' b #[.int .i64 most, .slice A n c, .int .u64 T] 72) := fun m => by
        have hbm := hb2.drewN m
        have hs := show cnt ps q + cc < 18446744073709551616 by have := HCC.out; have := HP.out; omega
        have := add06_any 0 A c ps q cc (w2.drewN m) (HB.out.own.below hbm) HB.out.gd (by rw [HN.out]; have := HCC.out; omega) HCC.out.1 hs (Nat.zero_le _)
        rw [HN.out] at this
        refine this.mono ?_
        rintro e w' ⟨A', c', rfl, ho, hfr, hk⟩
        have hat := hfr.at (s1.below hbm) HB.out.ne
        have hbn : b ∉ blk A' := fun hm => by
          rcases hk b hm with h | h
          · exact HB.out.ne h
          · have : b < w.heap.size := s1.lt
            have := hbm.size
            omega
        refine ⟨A', c', _, rfl, ⟨by unfold stCode; rw [if_pos HCC.out.1, if_pos hroom], b :: blk A', fun k hm => ?_, ?_, ?_⟩, hat⟩
        · rcases List.mem_cons.1 hm with rfl | hm
          · exact .inl (by simp)
          · rcases hk k hm with h | h
            · exact .inl (by simp [h])
            · exact .inr (Nat.le_trans hbm.size h)
        · unfold stStep
          rw [if_pos ⟨HCC.out.1, hroom⟩]
          refine ⟨A', c', rfl, ?_, ?_, hbn, HB.out.gd.rowAdd HCC.out.1 hs, okP_rowAdd HB.out.ok HQ.out, by rw [sumP_rowAdd HB.out.gd HCC.out.1 hs, HTT.out]; exact HP.out, hroom.2, HB.out.most1⟩
          · rw [sumP_rowAdd HB.out.gd HCC.out.1 hs, HTT.out]
            exact (hat.set_any 1 _ rfl).set_any 2 _ rfl
          · exact (ho.frame (Frame.set [b] _ b 1 _ (by simp)) (fun k hk e => by simp at e; subst e; exact hbn hk)).frame (Frame.set [b] _ b 2 _ (by simp)) (fun k hk e => by simp at e; subst e; exact hbn hk)
        · exact ((((Frame.of_below hbm).trans (hfr.mono fun k hk => by simp [hk])).setc (.inl (by simp)) 1 _).setc (.inl (by simp)) 2 _)
      have hw1 : ¬ (most ≤ n ∧ f = false) := fun h => hfull ⟨h.2, h.1⟩
      have hl3 := s3.lt
      clear hrl hb2 hroom HP HC
      cases f with
      | true =>
        clear hw1 hfull
        go_wp2
        go_quiet (fail)
        go_wp2_with fail
        refine (HADD.out _).mono ?_
        rintro e w4 ⟨A', c', len, rfl, HR, hat⟩
        have f4 := hat.three
        go_wp2
        go_ret
        exact HR.out
      | false =>
        have hm : (n : Int) < most := by
          rcases Int.lt_or_le n most with h | h
          · exact h
          · exact absurd ⟨rfl, h⟩ hfull
        clear hw1 hfull
        go_wp2
        go_quiet (fail)
        go_wp2_with fail
        refine (HADD.out _).mono ?_
        rintro e w4 ⟨A', c', len, rfl, HR, hat⟩
        have f4 := hat.three
        go_wp2
        go_ret
        exact HR.out
  · obtain ⟨p1, p2⟩ := plus2_no hP
    rw [p1, p2]
    have HP := Lib.hid hP
    clear p1 p2 hP
    go_wp2_with fail
    refine (HC.out W1 hb1).mono ?_
    rintro e w2 ⟨⟨k, f, rfl, hp, hf⟩, hb⟩
    have hb2 := keep1 hb1 hb
    have s3 := s1.below hb2
    have f3 := s3.three
    have HR : Hid (∀ m, SadR b (b :: blk A) most ps q cc w (.returned (.int .i64 6)) (w2.drewN m)) := fun m => by
      have hnr : ¬ stRoom most ps q cc := fun h => by have := h.1; rw [HTT.out] at this; have := HP.out; omega
      exact ⟨by unfold stCode; rw [if_pos HCC.out.1, if_neg hnr], _, GrownS.refl _ _, by unfold stStep; rw [if_neg (fun h => hnr h.2)]; exact H0.out.below (hb2.drewN m), Frame.of_below (hb2.drewN m)⟩
    clear hb hb1 f2 hp hf hb2
    go_wp2
    go_quiet (fail)
    go_wp2
    go_ret
    exact HR.out _

theorem sadd_any (b : Nat) (S : List Nat) (most : Int) (ps : List (Int × Int)) (q cc : Int) (w : World) (h : Strip w b S most ps) (hc : 0 ≤ cc) (hc' : cc < 18446744073709551616) (hq : -9223372036854775808 ≤ q ∧ q ≤ 9223372036854775807) :
    Calls Try.prog 45 #[.pointer (some ⟨b, 0, none⟩), .int .i64 q, .int .u64 cc] w fun e w' => SadR b S most ps q cc w e w' := by
  by_cases h0 : cc = 0
  · subst h0; exact sadd_zero b S most ps q w h
  · exact sadd_pos b S most ps q cc w h (by omega) hc' hq
end Go.Proofs.Ytooojpicbbpaaaa

