/- Contracts of package highcap: Merge; a nil one. -/
import Derived.Test.YtooojpicbbpaaaaProg
import Derived.Test.YtooojpicbbpaaaaHighPut
import Derived.BigQuiet
import Derived.Deep.QuietTactic
namespace Go.Proofs.Ytooojpicbbpaaaa
open Go.RowKit

theorem sumP_take_le {ps : List (Int × Int)} (h : ∀ x ∈ ps, 0 < x.2) (k : Nat) : 0 ≤ sumP (ps.take k) ∧ sumP (ps.take k) ≤ sumP ps := by
  have e := congrArg sumP (List.take_append_drop k ps)
  rw [sumP_append] at e
  have h1 := sumP_nonneg (ps := ps.take k) fun x hx => h x (List.mem_of_mem_take hx)
  have h2 := sumP_nonneg (ps := ps.drop k) fun x hx => h x (List.mem_of_mem_drop hx)
  omega

/-- A round of Merge: S0 what it was that was the first one's own, n from where on it may have grown. -/
structure Mer (w wr : World) (b : Nat) (S S' : List Nat) (n : Nat) (most tot : Int) (ps : List (Int × Int)) (A : Option Addr) (qs : List (Int × Int)) : Prop where
  low : High wr b S' most ps tot
  gr : GrownS S S' n
  fr : Frame S w wr
  rd : RdP wr A qs
  ap : ∀ k ∈ blk A, k ∉ S'
theorem Mer.step {w wr w' : World} {b : Nat} {S S' : List Nat} {n : Nat} {most tot q cc : Int} {ps : List (Int × Int)} {A : Option Addr} {qs : List (Int × Int)} (h : Mer w wr b S S' n most tot ps A qs) (hn : n ≤ wr.heap.size) (hw : w.heap.size ≤ n) (hA : ∀ k ∈ blk A, k < wr.heap.size)
    (hL : LadR b S' most ps tot q cc wr w') : ∃ S2, Mer w w' b S S2 n most (tot + cc) (capRow sd most ps q cc) A qs := by
  obtain ⟨S2, g2, hl, hF⟩ := hL
  have hg : GrownS S S2 n := fun k hk => by
    rcases g2 k hk with h1 | h1
    · exact h.gr k h1
    · exact .inr (Nat.le_trans hn h1)
  refine ⟨S2, hl, hg, ⟨hF.os.trans h.fr.os, hF.tape.trans h.fr.tape, hF.output.trans h.fr.output, Nat.le_trans h.fr.size hF.size, fun k hk hkS => ?_⟩, ?_, ?_⟩
  · refine (hF.block k (Nat.lt_of_lt_of_le hk h.fr.size) fun hk' => ?_).trans (h.fr.block k hk hkS)
    rcases h.gr k hk' with h1 | h1
    · exact hkS h1
    · omega
  · refine Frame.rd hF h.rd fun a e => ?_
    exact h.ap _ (by subst e; simp [blk])
  · intro k hk hk'
    rcases g2 k hk' with h1 | h1
    · exact h.ap k hk h1
    · have := hA k hk; omega

theorem capAll_sum_nil (most : Int) (ps : List (Int × Int)) : capAll sd most ps [] = ps := rfl

set_option maxRecDepth 100000 in
set_option maxHeartbeats 1000000 in
theorem lmerge_any (b o : Nat) (S So : List Nat) (most T U : Int) (ps qs : List (Int × Int)) (w : World) (h : High w b S most ps T) (k : High w o So most qs U) (hT : T + U ≤ 9223372036854775807) :
    Calls Try.prog 24 #[.pointer (some ⟨b, 0, none⟩), .pointer (some ⟨o, 0, none⟩)] w fun e w' => e = .returned (.int .i64 0) ∧ ∃ S', GrownS S S' w.heap.size ∧ High w' b S' most (capAll sd most ps qs) (T + U) ∧ Frame S w w' := by
  have H := Lib.hid h
  have K := Lib.hid k
  have HT := Lib.hid (And.intro hT (And.intro h.sum0 (And.intro h.lo (And.intro k.sum0 k.lo))))
  have HOK := Lib.hid k.ok
  have HGQ := Lib.hid k.gd
  have HLN := Lib.hid k.len
  obtain ⟨n, hn⟩ : ∃ n, qs.length = n := ⟨_, rfl⟩
  have HN := Lib.hid hn
  have hlen : n ≤ 4096 := by rw [← hn]; exact k.len.2
  obtain ⟨⟨c, S', _, _, s1, _⟩, _⟩ := id h
  obtain ⟨⟨c2, S2', _, _, t1, _⟩, _⟩ := id k
  have f1 := s1.three
  have g1 := t1.three
  obtain ⟨p1, p2⟩ := plus2_yes (a := T) (b := U) hT
  have HP := Lib.hid (And.intro p1 p2)
  have hU : 0 ≤ U - sumP qs := by have := k.lo; omega
  clear h k hT p1 p2 hn
  go_enter Try.func24, Try.ntmps24
  go_wp2
  go_quiet (fail)
  have hb0 : Below w.heap.size w (w.drewN nq) := (Below.refl _ _).drewN _
  go_wp2_with fail
  refine (ltotal_any b S most T ps _ (H.out.below hb0)).mono ?_
  rintro e w1 ⟨rfl, hb⟩
  have hb1 := keep1 hb0 hb
  have z1 := hb1.size
  clear hb hb0
  go_wp2_with fail
  refine (ltotal_any o So most U qs _ (K.out.below hb1)).mono ?_
  rintro e w2 ⟨rfl, hb⟩
  have hb2 := keep1 hb1 hb
  have z2 := hb2.size
  clear hb hb1 z1
  go_wp2_with fail
  have a1 := At.new w2 #[.int .u64 T, .int .u64 U] 32
  refine (plus2_any w2.heap.size T U _ (by have := HT.out; omega) (by have := HT.out; omega) (by have := HT.out; omega) (by have := HT.out; omega) (a1.cell rfl) (a1.cell rfl)).mono ?_
  rintro e w3 ⟨rfl, rfl⟩
  rw [HP.out.1, HP.out.2]
  have hb3 : Below w.heap.size w (w2.alloc (.cells #[.int .u64 T, .int .u64 U] 32)) := (by repeat (first | with_reducible assumption | with_reducible exact Below.refl _ _ | with_reducible refine Below.drew ?_ | with_reducible refine Below.drewN ?_ _ | with_reducible refine Below.setCell ?_ (by first | omega | (simp; done) | (simp; omega)) _ | with_reducible refine Below.alloc ?_ (by first | omega | (simp; done) | (simp; omega) | (simp [World.setCell]; omega)) _))
  have t3 := t1.below hb3
  obtain ⟨W3, hW3⟩ : ∃ W3, w2.alloc (.cells #[.int .u64 T, .int .u64 U] 32) = W3 := ⟨_, rfl⟩
  rw [hW3] at hb3 t3 ⊢
  have g3 := t3.three
  have l3 := t3.lt
  clear a1 hW3 hb2 z2 f1 g1 t1 s1
  go_wp2_with fail
  obtain ⟨⟨c3, S3', _, _, t4, hS4⟩, _⟩ := K.out.below hb3
  have e3 := t4.symm.trans t3
  simp only [Option.some.injEq, Obj.cells.injEq] at e3
  have e4 := e3.1
  simp at e4
  subst e4
  refine (spairs_any _ S3' most qs _ hS4).mono ?_
  rintro e w5 ⟨A, cap, rfl, ho, hb⟩
  rw [HN.out]
  have hb5 := keep1 hb3 hb
  have z5 := hb5.size
  have HA : Hid (∀ k ∈ blk A, w.heap.size ≤ k ∧ k < w5.heap.size) := fun k hk => by
    cases A with
    | none => simp [blk] at hk
    | some a => simp only [blk, List.mem_singleton] at hk; subst hk; have := ho.base_le a rfl; have := hb3.size; omega
  have HM : Hid (Mer w w5 b S S w5.heap.size most T ps A qs) := ⟨H.out.below hb5, GrownS.refl _ _, Frame.of_below hb5, ho.rd, fun k hk hk' => by have := (HA.out k hk).1; have := H.out.lt k hk'; omega⟩
  obtain ⟨B5, hB5⟩ : ∃ B5, w5.heap.size = B5 := ⟨_, rfl⟩
  have HZ : Hid (w.heap.size ≤ B5 ∧ B5 ≤ w5.heap.size) := by show _ ∧ _; omega
  rw [hB5] at HM HA
  clear hb ho hb3 g3 t3 l3 hS4 t4 e3 hb5 z5 hB5
  go_wp2
  go_loopw [9, 48] (fun _ i wr => ∃ j : Nat, ∃ S2, j ≤ n ∧ i = .int .i64 j ∧ Hid (Mer w wr b S S2 B5 most (T + sumP (qs.take j)) (capAll sd most ps (qs.take j)) A qs ∧ B5 ≤ wr.heap.size)) (fun _ i _ => n - (intOf i).toNat)
  case atStart => exact ⟨0, S, by omega, rfl, by rw [List.take_zero, sumP_nil, Int.add_zero]; exact ⟨HM.out, HZ.out.2⟩⟩
  case round =>
    obtain ⟨j, S2, hj, rfl, HJ⟩ := hrel
    clear HM
    by_cases hjt : j < n
    · obtain ⟨g, o', rfl, hg, c1, c2'⟩ := RdP.at HJ.out.1.rd j (by have := HN.out; omega)
      obtain ⟨⟨b1, b2⟩, b3, b4⟩ := HOK.out.at j (by have := HN.out; omega)
      have HS := Lib.hid (sumP_take qs j (by have := HN.out; omega))
      have HC := Lib.hid (capAll_take (s := sd) (most := most) ps qs j (by have := HN.out; omega))
      have HX := Lib.hid (HGQ.out.pos _ (List.getElem_mem (show j < qs.length by have := HN.out; omega)))
      have HL := Lib.hid (sumP_take_le HGQ.out.pos (j + 1))
      obtain ⟨⟨x, y⟩, hx⟩ : ∃ x, qs[j]'(by have := HN.out; omega) = x := ⟨_, rfl⟩
      rw [hx] at c1 c2' b1 b2 b3 b4 HS HC HX
      clear hx
      dsimp only at c1 c2' b1 b2 b3 b4 HS HC HX
      have zJ := HJ.out.2
      have hbp : Below wr.heap.size wr (wr.alloc (.cells #[.int .i64 x, .int .u64 y] 34)) := (Below.refl _ _).alloc (Nat.le_refl _) _
      have HJ2 : Hid (Mer w (wr.alloc (.cells #[.int .i64 x, .int .u64 y] 34)) b S S2 B5 most (T + sumP (qs.take j)) (capAll sd most ps (qs.take j)) (some ⟨g, o', none⟩) qs) :=
        ⟨HJ.out.1.low.below hbp, HJ.out.1.gr, HJ.out.1.fr.trans (Frame.of_below hbp), HJ.out.1.rd.below hbp, HJ.out.1.ap⟩
      clear HJ
      go_wp2_with fail
      refine (lput_any b S2 most _ x y _ _ HJ2.out.low HX.out (by have := HS.out; have := HL.out; have := HT.out; omega) ⟨b1, b2⟩).mono ?_
      rintro e w6 ⟨rfl, hL⟩
      have z6 : B5 ≤ w6.heap.size := by obtain ⟨_, _, _, hF⟩ := hL; have := hF.size; have := hbp.size; omega
      obtain ⟨S3, H3⟩ := HJ2.out.step (by have := hbp.size; omega) HZ.out.1 (fun k hk => by have := (HA.out k hk).2; have := hbp.size; omega) hL
      rw [← HC.out, Int.add_assoc, ← HS.out] at H3
      have H3' := Lib.hid (And.intro H3 z6)
      clear hL H3 z6 HJ2 hbp zJ
      go_wp2
      go_roundw
      case rel => exact ⟨j + 1, S3, by omega, by simp, H3'⟩
      case measure => simp [intOf]; omega
    · obtain rfl : j = n := by omega
      have H1 := HJ.out.1
      rw [List.take_of_length_le (by have := HN.out; omega)] at H1
      have HL := Lib.hid H1
      have hs0 := H1.low.sum0
      have hlo := H1.low.lo
      have hhi := H1.low.hi
      obtain ⟨⟨c4, S4', rfl, hn4, t4, hS4⟩, hwin, hm1, _, _⟩ := H1.low
      obtain ⟨lo, hlo'⟩ : ∃ lo, T + sumP qs - sumP (capAll sd most ps qs) = lo := ⟨_, rfl⟩
      obtain ⟨uo, huo⟩ : ∃ uo, U - sumP qs = uo := ⟨_, rfl⟩
      have hw : IntKind.u64.wrap (lo + uo) = lo + uo := by have := HT.out; simp only [IntKind.wrap_u64]; omega
      have HR : Hid (High (wr.setCell ⟨b, 2, none⟩ (.int .u64 (lo + uo))) b (b :: S4') most (capAll sd most ps qs) (T + U)) := by
        refine ⟨?_, hwin, hm1, by omega, HT.out.1⟩
        rw [show T + U - sumP (capAll sd most ps qs) = lo + uo by omega]
        exact HighR.set (lost := _) ⟨c4, S4', rfl, hn4, t4, hS4⟩
      have HF : Hid (Frame S w (wr.setCell ⟨b, 2, none⟩ (.int .u64 (lo + uo)))) := HL.out.fr.setc (.inl H.out.r.mem) 2 _
      have HGR : Hid (GrownS S (b :: S4') w.heap.size) := fun k hk => (HL.out.gr k hk).imp id fun h => Nat.le_trans HZ.out.1 h
      rw [hlo'] at t4
      rw [huo]
      have f4 := t4.three
      have l4 := t4.lt
      clear HL HJ H1 hwin t4 hS4 hs0 hlo hhi hlo' huo
      go_wp2
      go_ret
      exact ⟨rfl, _, HGR.out, HR.out, HF.out⟩

set_option maxRecDepth 100000 in
theorem lmerge_match (b o : Nat) (S So : List Nat) (most most' T U : Int) (ps qs : List (Int × Int)) (w : World) (h : High w b S most ps T) (k : High w o So most' qs U) (hne : most ≠ most') :
    Calls Try.prog 24 #[.pointer (some ⟨b, 0, none⟩), .pointer (some ⟨o, 0, none⟩)] w fun e w' => e = .returned (.int .i64 8) ∧ Below w.heap.size w w' := by
  obtain ⟨⟨c, S', _, _, s1, _⟩, _⟩ := h
  obtain ⟨⟨c2, S2', _, _, t1, _⟩, _⟩ := k
  have f1 := s1.three
  have g1 := t1.three
  have n1 : (most == most') = false := beq_eq_false_iff_ne.2 hne
  go_enter Try.func24, Try.ntmps24
  go_wp2
  go_quiet (fail)
  go_wp2
  go_ret
  exact ⟨rfl, (Below.refl _ _).drewN _⟩
theorem lmerge_nil (b : Nat) (w : World) :
    Calls Try.prog 24 #[.pointer (some ⟨b, 0, none⟩), .pointer none] w fun e w' => e = .returned (.int .i64 2) ∧ w = w' := by
  go_enter Try.func24, Try.ntmps24
  go_wp2
  go_ret
  exact ⟨rfl, rfl⟩
theorem lnil_merge (w : World) :
    Calls Try.prog 24 #[.pointer none, .pointer none] w fun e w' => e = .returned (.int .i64 2) ∧ w = w' := by
  go_enter Try.func24, Try.ntmps24
  go_wp2
  go_ret
  exact ⟨rfl, rfl⟩
end Go.Proofs.Ytooojpicbbpaaaa

