/- Contracts of the document's strip. -/
import Derived.Test.YtekjfbgkoneihaaProg
import Derived.Test.YtekjfbgkoneihaaStripBelow
namespace Go.Proofs.Ytekjfbgkoneihaa
open Go.RowKit

structure DocB (w : World) (m : Nat) (A : Option Addr) (c : Nat) (most : Int) (ps : List (Int × Int)) : Prop where
  at' : At w m #[.int .i64 most, .slice A ps.length c] 53
  own : Own2 0 w A c ps
  ne : m ∉ blk A
/-- The document's strip, and the blocks that are its own. -/
def DocS (w : World) (m : Nat) (S : List Nat) (most : Int) (ps : List (Int × Int)) : Prop := ∃ A c, S = m :: blk A ∧ DocB w m A c most ps

section
variable {w w' : World} {b : Nat} {S T : List Nat} {most : Int} {ps : List (Int × Int)}
theorem DocS.frame (h : DocS w b S most ps) (hf : Frame T w w') (hn : Apart S T) : DocS w' b S most ps := by
  obtain ⟨A, c, rfl, h⟩ := h
  exact ⟨A, c, rfl, hf.at h.at' (hn b (by simp)), h.own.frame hf (fun k hk => hn k (by simp [hk])), h.ne⟩
theorem DocS.below (h : DocS w b S most ps) (hb : Below w.heap.size w w') : DocS w' b S most ps := h.frame (T := []) (Frame.of_below hb) (fun _ _ => by simp)
theorem DocS.lt (h : DocS w b S most ps) : ∀ k ∈ S, k < w.heap.size := by
  obtain ⟨A, c, rfl, h⟩ := h
  intro k hk
  rcases List.mem_cons.1 hk with rfl | hk
  · exact h.at'.lt
  · cases A with
    | none => simp [blk] at hk
    | some a => simp only [blk, List.mem_singleton] at hk; subst hk; exact (h.own.base_le a rfl).2
end

/-- What the document's Add leaves. -/
def DadR (b : Nat) (S : List Nat) (most : Int) (ps : List (Int × Int)) (q cc : Int) (w : World) (e : Ending) (w' : World) : Prop :=
  e = .returned (.int .i64 (stCode most ps q cc)) ∧ ∃ S', GrownS S S' w.heap.size ∧ DocS w' b S' most (stStep most ps q cc) ∧ Frame S w w'

theorem dadd_zero (b : Nat) (S : List Nat) (most : Int) (ps : List (Int × Int)) (q : Int) (w : World) (h : DocS w b S most ps) :
    Calls Try.prog 23 #[.pointer (some ⟨b, 0, none⟩), .int .i64 q, .int .u64 0] w fun e w' => DadR b S most ps q 0 w e w' := by
  have HR : Hid (DadR b S most ps q 0 w (.returned (.int .i64 1)) w) := ⟨by unfold stCode; rw [if_neg (by omega)], S, GrownS.refl _ _, by unfold stStep; rw [if_neg (by omega)]; exact h, Frame.refl _ _⟩
  clear h
  go_enter Try.func23, Try.ntmps23
  go_wp2
  go_ret
  exact HR.out

set_option maxRecDepth 100000 in
set_option maxHeartbeats 4000000 in
theorem dadd_pos (b : Nat) (S : List Nat) (most : Int) (ps : List (Int × Int)) (q cc : Int) (w : World) (h : DocS w b S most ps) (hok : okP ps) (hg : Gd ps) (hsm : sumP ps ≤ 9223372036854775807) (hln : ps.length ≤ 4096) (hc : 0 < cc) (hc' : cc < 18446744073709551616) (hq : -9223372036854775808 ≤ q ∧ q ≤ 9223372036854775807) :
    Calls Try.prog 23 #[.pointer (some ⟨b, 0, none⟩), .int .i64 q, .int .u64 cc] w fun e w' => DadR b S most ps q cc w e w' := by
  have H0 := Lib.hid h
  obtain ⟨A, c, rfl, hB⟩ := h
  have s1 := hB.at'
  have hs0 := sumP_nonneg hg.pos
  have HC := Lib.hid (radd06_any A ps.length c ps q cc w rfl (by omega) hB.own.rd hok hq ⟨by omega, hc'⟩)
  have HT := Lib.hid (fun W (hb : Below w.heap.size w W) => total_any A ps.length c ps W rfl (by omega) (hB.own.rd.below hb) hok)
  have HB := Lib.hid hB
  have hT0 : sumP ps % 18446744073709551616 = sumP ps := Int.emod_eq_of_lt hs0 (by omega)
  rw [hT0] at HT
  obtain ⟨n, hn⟩ : ∃ n, ps.length = n := ⟨_, rfl⟩
  obtain ⟨T, hT⟩ : ∃ T, sumP ps = T := ⟨_, rfl⟩
  obtain ⟨rn, hrn⟩ : ∃ rn, (rowAdd ps q cc).length = rn := ⟨_, rfl⟩
  have hrl := rowAdd_len (ps := ps) (q := q) (c := cc)
  have HN := Lib.hid (And.intro hn (And.intro hT hrn))
  rw [hn] at s1 HC HT hrl
  rw [hT] at HT hs0 hsm
  rw [hrn] at HC hrl
  have f1 := s1.two
  have hcc : (cc == 0) = false := beq_eq_false_iff_ne.2 (by omega)
  have hw : IntKind.u64.wrap (9223372036854775807 - T) = 9223372036854775807 - T := by simp only [IntKind.wrap_u64]; omega
  have HCC := Lib.hid (And.intro hc hc')
  clear hB hn hT hrn hc hc' hs0 hsm hT0 hg hok hq
  go_enter Try.func23, Try.ntmps23
  go_wp2_with fail
  refine HC.out.mono ?_
  rintro e w1 ⟨A', c', rfl, ho, hb1⟩
  have HO := Lib.hid ho
  have s2 := s1.below hb1
  have f2 := s2.two
  clear f1 ho HC
  go_wp2_with fail
  refine (HT.out w1 hb1).mono ?_
  rintro e w2 ⟨rfl, hb2⟩
  have hb := keep1 hb1 hb2
  have s3 := s2.below hb2
  have f3 := s3.two
  have HO2 := Lib.hid (HO.out.below hb2)
  clear f2 s2
  by_cases h1 : cc ≤ 9223372036854775807 - T
  · by_cases h2 : (rn : Int) ≤ most
    · have hroom : stRoom most ps q cc := ⟨by rw [HN.out.2.1]; exact h1, by rw [HN.out.2.2]; exact h2⟩
      have hbk : ∀ k ∈ blk A', w.heap.size ≤ k := fun k hk => by
        cases A' with
        | none => simp [blk] at hk
        | some a => simp only [blk, List.mem_singleton] at hk; subst hk; exact (HO.out.base_le a rfl).1
      have hbn : b ∉ blk A' := fun hm => by have := hbk b hm; have := s1.lt; omega
      have HR : Hid (DadR b (b :: blk A) most ps q cc w (.returned (.int .i64 0)) (w2.setCell ⟨b, 1, none⟩ (.slice A' rn c'))) := by
        refine ⟨by unfold stCode; rw [if_pos HCC.out.1, if_pos hroom], b :: blk A', fun k hk => ?_, ?_, ?_⟩
        · rcases List.mem_cons.1 hk with rfl | hk
          · exact .inl (by simp)
          · exact .inr (hbk k hk)
        · unfold stStep
          rw [if_pos ⟨HCC.out.1, hroom⟩]
          refine ⟨A', c', rfl, ?_, ?_, hbn⟩
          · rw [HN.out.2.2]; exact s3.set_any 1 _ rfl
          · exact (HO2.out.mono (Nat.zero_le _)).frame (Frame.set [b] _ b 1 _ (by simp)) (fun k hk e => by simp at e; subst e; exact hbn hk)
        · exact (Frame.of_below hb).setc (.inl (by simp)) 1 _
      have n1 : ¬ (9223372036854775807 - T < cc) := by omega
      have n2 : ¬ (most < (rn : Int)) := by omega
      clear h1 h2 hroom hbk hbn
      go_wp2
      go_ret
      exact HR.out
    · have hnr : ¬ stRoom most ps q cc := fun h => by have := h.2; rw [HN.out.2.2] at this; exact h2 this
      have HR : Hid (DadR b (b :: blk A) most ps q cc w (.returned (.int .i64 6)) w2) :=
        ⟨by unfold stCode; rw [if_pos HCC.out.1, if_neg hnr], _, GrownS.refl _ _, by unfold stStep; rw [if_neg (fun h => hnr h.2)]; exact H0.out.below hb, Frame.of_below hb⟩
      have n1 : ¬ (9223372036854775807 - T < cc) := by omega
      have n2 : most < (rn : Int) := by omega
      clear h1 h2 hnr
      go_wp2
      go_ret
      exact HR.out
  · have hnr : ¬ stRoom most ps q cc := fun h => by have := h.1; rw [HN.out.2.1] at this; exact h1 this
    have HR : Hid (DadR b (b :: blk A) most ps q cc w (.returned (.int .i64 6)) w2) :=
      ⟨by unfold stCode; rw [if_pos HCC.out.1, if_neg hnr], _, GrownS.refl _ _, by unfold stStep; rw [if_neg (fun h => hnr h.2)]; exact H0.out.below hb, Frame.of_below hb⟩
    have n1 : 9223372036854775807 - T < cc := by omega
    clear h1 hnr
    go_wp2
    go_ret
    exact HR.out

theorem dadd_any (b : Nat) (S : List Nat) (most : Int) (ps : List (Int × Int)) (q cc : Int) (w : World) (h : DocS w b S most ps) (hok : okP ps) (hg : Gd ps) (hsm : sumP ps ≤ 9223372036854775807) (hln : ps.length ≤ 4096) (hc : 0 ≤ cc) (hc' : cc < 18446744073709551616) (hq : -9223372036854775808 ≤ q ∧ q ≤ 9223372036854775807) :
    Calls Try.prog 23 #[.pointer (some ⟨b, 0, none⟩), .int .i64 q, .int .u64 cc] w fun e w' => DadR b S most ps q cc w e w' := by
  by_cases h0 : cc = 0
  · subst h0; exact dadd_zero b S most ps q w h
  · exact dadd_pos b S most ps q cc w h hok hg hsm hln (by omega) hc' hq
end Go.Proofs.Ytekjfbgkoneihaa

