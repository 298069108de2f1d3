/- Texts of this claim, joined, indents halved: Gr6, Gr7, Gr8, Gr9, Tup7, Tup8. -/
import Derived.Test.YtlbnlmhcpephbaaGreatDoorProg
import Derived.Test.YtlbnlmhcpephbaaGreatDoorKc18
namespace Go.Proofs.YtlbnlmhcpephbaaGreatDoor
open Go.RowKit Tt
theorem frame_join {S S1 : List Nat} {w w1 w2 : World} (h : Frame S w w1) (hm : ∀ j ∈ S1, j ∈ S ∨ w.heap.size ≤ j) (h1 : Frame S1 w1 w2) : Frame S w w2 :=
 ⟨h1.os.trans h.os, h1.tape.trans h.tape, h1.output.trans h.output, Nat.le_trans h.size h1.size, fun j hj hn => (h1.block j (Nat.lt_of_lt_of_le hj h.size) fun hm' => by
  rcases hm j hm' with h2 | h2
  ·exact hn h2
  ·omega).trans (h.block j hj hn)⟩
def GrV (m : Nat) (w : World) (b : Nat) (S : List Nat) (u v : Int) (l : List (Int × Int)) : Prop :=
 ∃ row waits R W rc wc, S = b :: (blk R ++ blk W) ∧ GrAt w b u v row waits R W rc wc (sumP l) ∧ GrP u v row waits l ∧ waits.length ≤ m ∧ gwOk u v = true
def GrG (m : Nat) (b : Nat) (S : List Nat) (u v : Int) (l : List (Int × Int)) (w w' : World) : Prop := ∃ S', GrownS S S' w.heap.size ∧ GrV m w' b S' u v l ∧ Frame S w w'
section
variable {m k b : Nat} {w w1 w' : World} {S S' : List Nat} {u v : Int} {l l' : List (Int × Int)}
theorem GrV.lt (h : GrV m w b S u v l) : (∀ j ∈ S, j < w.heap.size) ∧ b ∈ S := by
 obtain ⟨row, waits, R, W, rc, wc, rfl, h, _⟩ := h
 obtain ⟨g1, g2, g3⟩ := h.ge
 refine ⟨fun j hj => ?_, by simp⟩
 rcases List.mem_cons.1 hj with rfl | hj
 ·exact g3
 ·rcases List.mem_append.1 hj with hj | hj
  ·exact g1 j hj
  ·exact g2 j hj
theorem GrV.frame {T : List Nat} (h : GrV m w b S u v l) (hF : Frame T w w') (hn : Apart S T) : GrV m w' b S u v l := by
 obtain ⟨row, waits, R, W, rc, wc, rfl, h, h1⟩ := h
 exact ⟨row, waits, R, W, rc, wc, rfl, h.frame hF hn, h1⟩
theorem GrV.below (h : GrV m w b S u v l) (hb : Below w.heap.size w w') : GrV m w' b S u v l := h.frame (T := []) (Frame.of_below hb) fun _ _ => by simp
theorem GrV.mono (h : GrV m w b S u v l) (hk : m ≤ k) : GrV k w b S u v l := by
 obtain ⟨row, waits, R, W, rc, wc, e, h, h1, h2, h3⟩ := h
 exact ⟨row, waits, R, W, rc, wc, e, h, h1, Nat.le_trans h2 hk, h3⟩
theorem GrV.sum0 (h : GrV m w b S u v l) (hs : sumP l ≤ 1000000) : 0 ≤ sumP l := by
 obtain ⟨row, waits, R, W, rc, wc, e, h, h1, h2, h3⟩ := h
 exact (h1.len hs).2.2.2
theorem GrG.same (h : GrV m w b S u v l) (hb : Below w.heap.size w w') : GrG m b S u v l w w' := ⟨S, GrownS.refl _ _, h.below hb, Frame.of_below hb⟩
theorem GrG.join (hg : GrownS S S' w.heap.size) (hF : Frame S w w1) (h : GrG m b S' u v l w1 w') : GrG m b S u v l w w' := by
 obtain ⟨S2, g2, h2, f2⟩ := h
 refine ⟨S2, fun j hj => ?_, h2, frame_join hF hg f2⟩
 rcases g2 j hj with h3 | h3
 ·exact hg j h3
 ·exact .inr (Nat.le_trans hF.size h3)
end
theorem gflush_v (m b : Nat) (S : List Nat) (u v : Int) (l : List (Int × Int)) (w : World) (h : GrV m w b S u v l) (hs : sumP l ≤ 1000000) :
  Calls Tryz.prog 270 #[.pointer (some ⟨b, 0, none⟩)] w fun e w' => e = .returned (.tuple #[]) ∧ GrG 0 b S u v l w w' := by
 obtain ⟨row, waits, R, W, rc, wc, rfl, h, h1, h2, h3⟩ := h
 refine (gflush_any b u v (sumP l) row waits R W rc wc l w h h1 h3 rfl hs).mono ?_
 rintro e w' ⟨rfl, row', R', rc', W', wc', ha, hp, hF, hm⟩
 refine ⟨rfl, b :: (blk R' ++ blk W'), fun j hj => ?_, ⟨row', [], R', W', rc', wc', rfl, ha, hp, by simp, h3⟩, hF⟩
 rcases List.mem_cons.1 hj with rfl | hj
 ·exact .inl (by simp)
 ·rcases hm j hj with h4 | h4
  ·exact .inl (by simp only [List.mem_cons]; exact .inr h4)
  ·exact .inr h4
theorem GrAt.push {w w5 : World} {b : Nat} {u v T T' x : Int} {row : List Tu} {waits : List Int} {R W W' : Option Addr} {rc wc wc' : Nat} (h : GrAt w b u v row waits R W rc wc T) (hF : Frame (blk W) w w5) (ho : OwnW 0 w5 W' wc' (waits ++ [x])) (hm : ∀ j ∈ blk W', j ∈ blk W ∨ w.heap.size ≤ j) :
  GrAt ((w5.setCell ⟨b, 3, none⟩ (.slice W' (waits.length + 1) wc')).setCell ⟨b, 4, none⟩ (.int .u64 T')) b u v row (waits ++ [x]) R W' rc wc' T' ∧ Frame (b :: blk W) w ((w5.setCell ⟨b, 3, none⟩ (.slice W' (waits.length + 1) wc')).setCell ⟨b, 4, none⟩ (.int .u64 T')) := by
 obtain ⟨g1, g2, g3⟩ := h.ge
 have hs := h.sep.no
 have hl : (waits ++ [x]).length = waits.length + 1 := by rw [List.length_append]; rfl
 have hF2 : Frame [b] w5 ((w5.setCell ⟨b, 3, none⟩ (.slice W' (waits.length + 1) wc')).setCell ⟨b, 4, none⟩ (.int .u64 T')) := (Frame.set [b] w5 b 3 _ (by simp)).setc (.inl (by simp)) _ _
 refine ⟨⟨?_, ?_, ?_, SepA.of (fun k hk hk' => ?_), h.nb.1, fun hb => ?_⟩, ?_⟩
 ·rw [hl]
  exact ((hF.at h.box h.nb.2).set_any 3 (.slice W' (waits.length + 1) wc') rfl).set_any 4 (.int .u64 T') rfl
 ·exact ownT_frame (ownT_frame h.own hF hs) hF2 fun k hk hm => by rw [List.mem_singleton] at hm; subst hm; exact h.nb.1 hk
 ·refine ownW_frame ho hF2 fun k hk hm' => ?_
  rw [List.mem_singleton] at hm'; subst hm'
  rcases hm k hk with h1 | h1
  ·exact h.nb.2 h1
  ·omega
 ·rcases hm k hk' with h1 | h1
  ·exact hs k hk h1
  ·have := g1 k hk; omega
 ·rcases hm b hb with h1 | h1
  ·exact h.nb.2 h1
  ·omega
 ·exact frame_join (hF.mono fun k hk => by simp [hk]) (fun j hj => .inl (by simp only [List.mem_singleton] at hj; simp [hj])) hF2
theorem sep_mem {A A' : Option Addr} {n : Nat} (h : ∀ B : Option Addr, SepA A B → (∀ b, B = some b → b.block < n) → SepA A' B) : ∀ j ∈ blk A', j ∈ blk A ∨ n ≤ j := fun j hj => by
 obtain ⟨a, ha, rfl⟩ := blk_mem hj
 by_cases h1 : a.block ∈ blk A
 ·exact .inl h1
 ·by_cases h2 : a.block < n
  ·refine absurd rfl (h (some ⟨a.block, 0, none⟩) (fun x y hx hy e => h1 ?_) (fun y hy => by cases hy; exact h2) a ⟨a.block, 0, none⟩ ha rfl)
   cases hy
   dsimp only at e
   rw [← e]
   exact mem_blk hx
  ·exact .inr (by omega)
set_option maxRecDepth 100000 in
set_option maxHeartbeats 4000000 in
theorem gput_v (b : Nat) (S : List Nat) (u v x n : Int) (l : List (Int × Int)) (w : World) (h : GrV 15 w b S u v l) (hx : -9223372036854775808 ≤ x ∧ x ≤ 9223372036854775807) (hn : 0 < n ∧ n ≤ 1000) (hs : sumP l + n ≤ 1000000) :
    Calls Tryz.prog 271 #[.pointer (some ⟨b, 0, none⟩), .int .i64 x, .int .u64 n] w fun e w' => e = .returned (.int .i64 0) ∧ GrG 15 b S u v (l ++ [(x, n)]) w w' := by
  obtain ⟨m, rfl⟩ : ∃ m : Nat, n = m := ⟨n.toNat, by omega⟩
  have hs0 := h.sum0 (by omega)
  have H0 : Hid (∀ W, Below w.heap.size w W → ∃ S', GrownS S S' w.heap.size ∧ GrV 15 W b S' u v (l ++ [(x, ((0 : Nat) : Int))]) ∧ Frame S w W) := fun W hW => by
    refine ⟨S, GrownS.refl _ _, ?_, Frame.of_below hW⟩
    obtain ⟨row, waits, R, Wa, rc, wc, e, h1, h2, h3, h4⟩ := h.below hW
    exact ⟨row, waits, R, Wa, rc, wc, e, by rw [sumP_append, sumP_cons, sumP_nil]; simpa using h1, h2.zero, h3, h4⟩
  obtain ⟨row, waits, R, Wa, rc, wc, hS, h1, h2, h3, h4⟩ := h
  have f1 := h1.box.five
  have l1 := h1.box.lt
  obtain ⟨n0, hn0⟩ : ∃ n0, waits.length = n0 := ⟨_, rfl⟩
  obtain ⟨n1, hn1⟩ : ∃ n1, row.length = n1 := ⟨_, rfl⟩
  obtain ⟨t, ht⟩ : ∃ t, sumP l = t := ⟨_, rfl⟩
  have HT : Hid (sumP l = t) := ht
  rw [hn0, hn1, ht] at f1
  have HX := Lib.hid hx
  obtain ⟨p1, p2⟩ := plus2_yes (show t + (m : Int) ≤ 9223372036854775807 by omega)
  have HSM : Hid (0 ≤ t ∧ t + (m : Int) ≤ 1000000 ∧ 0 < m ∧ m ≤ 1000) := by show _ ∧ _; omega
  have hm0 : ((m : Int) == 0) = false := beq_eq_false_iff_ne.2 (by omega)
  have hm1 : ¬ (1024 < (m : Int)) := by omega
  have hm2 : decide ((1024 : Int) < m) = false := decide_eq_false hm1
  have hm3 : decide (1024 < m) = false := decide_eq_false (by omega)
  obtain ⟨B, hBs⟩ : ∃ B, w.heap.size = B := ⟨_, rfl⟩
  have HBS := Lib.hid hBs
  clear h1 h2 h3 h4 hn0 hn1 ht hS hx hn hs hs0
  go_enter Tryz.func271, Tryz.ntmps271
  go_wp2_with (go_at_call 102; refine (plus2_any B t m _ HSM.out.1 (by have := HSM.out; omega) (by omega) (by have := HSM.out; omega) ?_ ?_).mono ?_)
  have H1 := Lib.hid (H0.out (w.alloc (.cells #[.int .u64 t, .int .u64 (m : Int)] 23)) ((Below.refl _ _).alloc (Nat.le_refl _) _))
  clear p1 p2 f1 l1 hBs H0 hm0 hm1 hm2 hm3
  go_loopw [31] (fun i wr => ∃ k : Nat, k ≤ m ∧ i = .int .u64 k ∧ Hid (∃ S', GrownS S S' w.heap.size ∧ GrV 15 wr b S' u v (l ++ [(x, (k : Int))]) ∧ Frame S w wr)) (fun i _ => m - (intOf i).toNat)
  case atStart => exact ⟨0, by omega, rfl, H1⟩
  case round =>
    obtain ⟨k, hk, rfl, H⟩ := hrel
    clear H1
    by_cases hlt : k < m
    · obtain ⟨S1, hg1, ⟨row, waits, R, Wa, rc, wc, hS1, hat, hgp, hwl, hok⟩, hF1⟩ := H.out
      have hsk : sumP (l ++ [(x, (k : Int))]) = t + k := by rw [sumP_append, sumP_cons, sumP_nil, HT.out]; simp
      rw [hsk] at hat
      have HGP := Lib.hid (hgp.wait HX.out)
      have HS1 := Lib.hid (And.intro hg1 (And.intro hS1 hF1))
      have HOK := Lib.hid hok
      have f1 := hat.box.five
      have l1 := hat.box.lt
      have HAT := Lib.hid hat
      have hba : Below wr.heap.size wr (wr.alloc (.cells #[.int .i64 x] 2)) := (Below.refl _ _).alloc (Nat.le_refl _) _
      have HA2 := Lib.hid (hat.below hba)
      have HBA := Lib.hid hba
      have aX := At.new wr #[.int .i64 x] 2
      obtain ⟨n0, hn0⟩ : ∃ n0, waits.length = n0 := ⟨_, rfl⟩
      obtain ⟨n1, hn1⟩ : ∃ n1, row.length = n1 := ⟨_, rfl⟩
      have HN := Lib.hid (And.intro hn0 hn1)
      rw [hn0, hn1] at f1
      rw [hn0] at hwl
      have hsm := HSM.out
      have hkw : IntKind.u64.wrap ((k : Int) + 1) = ((k + 1 : Nat) : Int) := by simp only [IntKind.wrap_u64]; omega
      have htw : IntKind.u64.wrap (t + k + 1) = t + ((k : Int) + 1) := by simp only [IntKind.wrap_u64]; omega
      have HLT : Hid (b < wr.heap.size) := l1
      clear hat hgp hS1 hg1 hF1 hsk hn0 hn1 hok hba H hsm
      go_wp2_with (first
        | at_builtin
          refine wpList_append_i64 rfl _ _ rfl 0 Wa wc n0 waits rfl HN.out.1 HA2.out.wai ⟨wr.heap.size, 0, none⟩ 1 x rfl (aX.cell rfl) (by omega) (Nat.zero_le _) ?_
          intro A' cap' w5 HO5 HG5 HS5
          have hF5 := frame_grown HG5.out
          have hm5 := sep_mem HS5.out
          have hFw := (Frame.of_below (S := blk Wa) HBA.out).trans hF5
          have hm5' : ∀ j ∈ blk A', j ∈ blk Wa ∨ wr.heap.size ≤ j := fun j hj => (hm5 j hj).imp id fun h => Nat.le_trans HBA.out.size h
          have hpush := HAT.out.push (T' := t + ((k : Int) + 1)) hFw HO5.out hm5'
          have hbox5 := hFw.at HAT.out.box HAT.out.nb.2
          rw [HN.out.1] at hpush
          rw [HN.out.1, HN.out.2] at hbox5
          have f5 := hbox5.five
          have l5 := hbox5.lt
          have HP5 := Lib.hid (And.intro hpush hm5')
          have HSW : Hid (∀ z, At (w5.setCell ⟨b, 3, none⟩ z) b #[.int .u64 u, .int .u64 v, .slice R n1 rc, z, .int .u64 (t + (k : Int))] 173) := fun z => hbox5.set_any 3 z rfl
          have HGV : Hid (∃ S2, GrownS S S2 w.heap.size ∧ GrV (n0 + 1) ((w5.setCell ⟨b, 3, none⟩ (.slice A' (n0 + 1) cap')).setCell ⟨b, 4, none⟩ (.int .u64 (t + ((k : Int) + 1)))) b S2 u v (l ++ [(x, (k : Int) + 1)]) ∧ Frame S w ((w5.setCell ⟨b, 3, none⟩ (.slice A' (n0 + 1) cap')).setCell ⟨b, 4, none⟩ (.int .u64 (t + ((k : Int) + 1))))) := by
            have hsk : sumP (l ++ [(x, (k : Int) + 1)]) = t + ((k : Int) + 1) := by rw [sumP_append, sumP_cons, sumP_nil, HT.out]; simp
            obtain ⟨hg1, hS1, hF1⟩ := HS1.out
            subst hS1
            refine ⟨b :: (blk R ++ blk A'), fun j hj => ?_, ⟨row, waits ++ [x], R, A', rc, cap', rfl, by rw [hsk]; exact HP5.out.1.1, HGP.out, by rw [List.length_append, HN.out.1]; exact Nat.le_refl _, HOK.out⟩, frame_join hF1 (fun j hj => ?_) HP5.out.1.2⟩
            · rcases List.mem_cons.1 hj with rfl | hj
              · exact hg1 j (by simp)
              · rcases List.mem_append.1 hj with hj | hj
                · exact hg1 j (by simp [hj])
                · rcases HP5.out.2 j hj with h1 | h1
                  · exact hg1 j (by simp [h1])
                  · exact .inr (Nat.le_trans hF1.size h1)
            · rcases List.mem_cons.1 hj with rfl | hj
              · exact hg1 j (by simp)
              · exact hg1 j (by simp [hj])
          clear hF5 hm5 hFw hm5' hpush hbox5 HO5 HG5 HS5 aX HBA HA2 f1 l1
        | fail)
      · obtain ⟨S2, hg2, hv2, hf2⟩ := HGV.out
        have HG2 := Lib.hid (And.intro hg2 hf2)
        have HV2 := Lib.hid hv2
        have HSS : Hid (sumP (l ++ [(x, (k : Int) + 1)]) ≤ 1000000) := by have := HSM.out; show _ ≤ _; rw [sumP_append, sumP_cons, sumP_nil, HT.out]; dsimp only; omega
        clear hg2 hf2 hv2 HGV HP5 HSW HAT HS1 HGP f5 l5
        refine (gflush_v (n0 + 1) b S2 u v _ _ HV2.out HSS.out).mono ?_
        rintro e w7 ⟨rfl, hG⟩
        have HG7 : Hid (∃ S', GrownS S S' w.heap.size ∧ GrV 15 w7 b S' u v (l ++ [(x, ((k + 1 : Nat) : Int))]) ∧ Frame S w w7) := by
          obtain ⟨S3, h1, h2, h3⟩ := GrG.join HG2.out.1 HG2.out.2 hG
          exact ⟨S3, h1, h2.mono (by omega), h3⟩
        clear hG HV2 HG2
        go_wp2
        go_roundw
        case rel => exact ⟨k + 1, by omega, by simp, HG7⟩
        case measure => simp [intOf]; omega
      · rename_i hlt15
        have HG7 : Hid (∃ S', GrownS S S' w.heap.size ∧ GrV 15 ((w5.setCell ⟨b, 3, none⟩ (.slice A' (n0 + 1) cap')).setCell ⟨b, 4, none⟩ (.int .u64 (t + ((k : Int) + 1)))) b S' u v (l ++ [(x, ((k + 1 : Nat) : Int))]) ∧ Frame S w ((w5.setCell ⟨b, 3, none⟩ (.slice A' (n0 + 1) cap')).setCell ⟨b, 4, none⟩ (.int .u64 (t + ((k : Int) + 1))))) := by
          obtain ⟨S2, hg2, h2, hf2⟩ := HGV.out
          exact ⟨S2, hg2, h2.mono (by omega), hf2⟩
        exact ⟨⟨k + 1, by omega, by simp, HG7⟩, by simp [intOf]; omega⟩
    · obtain rfl : k = m := by omega
      have HF : Hid (GrG 15 b S u v (l ++ [(x, (k : Int))]) w wr) := H.out
      clear H
      go_wp2
      go_ret
      exact ⟨rfl, HF.out⟩
end Go.Proofs.YtlbnlmhcpephbaaGreatDoor

namespace Go.Proofs.YtlbnlmhcpephbaaGreatDoor
open Go.RowKit Tt
theorem gput_zero (b : Nat) (x : Int) (w : World) : Calls Tryz.prog 271 #[.pointer (some ⟨b, 0, none⟩), .int .i64 x, .int .u64 0] w fun e w' => e = .returned (.int .i64 1) ∧ w = w' := by
 go_enter Tryz.func271, Tryz.ntmps271
 go_wp2
 go_ret
 exact ⟨rfl, rfl⟩
def GfdR (u v : Int) (l : List (Int × Int)) (w : World) (e : Ending) (w' : World) : Prop := (∃ A c qs, e = .returned (.slice A qs.length c) ∧ RdT w' A qs ∧ GrP u v qs [] l) ∧ Below w.heap.size w w'
set_option maxRecDepth 100000 in
set_option maxHeartbeats 2000000 in
theorem gflushed_any (m b : Nat) (S : List Nat) (u v : Int) (l : List (Int × Int)) (w : World) (h : GrV m w b S u v l) (hs : sumP l ≤ 1000000) :
  Calls Tryz.prog 313 #[.pointer (some ⟨b, 0, none⟩)] w fun e w' => GfdR u v l w e w' := by
 obtain ⟨row, waits, R, Wa, rc, wc, rfl, h, hp, _, ho⟩ := h
 have HP := Lib.hid (And.intro hp (And.intro ho hs))
 have hlen := hp.len hs
 have HC := Lib.hid fun W (hb : Below w.heap.size w W) => Tt.clone_any 0 R rc row W (h.own.below hb) (by omega)
 have HCW := Lib.hid fun W (hb : Below w.heap.size w W) => cloneW_any 0 Wa wc waits W (h.wai.below hb) (by omega)
 have hbox := h.box
 obtain ⟨T, hT⟩ : ∃ t, sumP l = t := ⟨_, rfl⟩
 have HT : Hid (T = sumP l) := hT.symm
 rw [hT] at hbox
 obtain ⟨n0, hn0⟩ : ∃ n0, waits.length = n0 := ⟨_, rfl⟩
 obtain ⟨n1, hn1⟩ : ∃ n1, row.length = n1 := ⟨_, rfl⟩
 have HN := Lib.hid (And.intro hn0 hn1)
 rw [hn0, hn1] at hbox
 simp only [hn0] at HCW
 simp only [hn1] at HC
 clear h hp ho hs hlen hT hn0 hn1
 go_enter Tryz.func313, Tryz.ntmps313
 go_wp2
 have hbd : Below w.heap.size w w.drew := (Below.refl _ _).drew
 obtain ⟨W4, hW4⟩ : ∃ W, w.drew = W := ⟨_, rfl⟩
 rw [hW4] at hbd
 have hK4 : GrW b #[.int .u64 u, .int .u64 v, .slice R n1 rc, .slice Wa n0 wc, .int .u64 T] W4 := hbox.below hbd
 have HB4 := Lib.hid hbd
 haveI hne : Nonempty (Held (GrW b #[.int .u64 u, .int .u64 v, .slice R n1 rc, .slice Wa n0 wc, .int .u64 T])) := ⟨⟨W4, hK4⟩⟩
 have hfar1 := fun v' : Held (GrW b #[.int .u64 u, .int .u64 v, .slice R n1 rc, .slice Wa n0 wc, .int .u64 T]) => v'.held.at.five
 refine wp_region_noPanic ?_
 refine wp_region_held_drew (S := HeldS (GrW b #[.int .u64 u, .int .u64 v, .slice R n1 rc, .slice Wa n0 wc, .int .u64 T])) (by kernel_rfl) (by rw [hW4]; exact HeldS.mk' hK4) (fun hHeld => ?_)
 rw [hW4] at hHeld ⊢
 have HK4 := Lib.hid hK4
 clear hW4 hK4 hbd hbox
 refine wpAnyH_run0 [true, true, true, true, true, true, true, true, false, true, true, true, true, false, true, true, true, true] 5 (by kernel_rfl) (by kernel_rfl) (fun _ _ _ _ h => h) (by kernel_rfl) hHeld ?_
 simp only [runOps_true, runOps_false, runOps_nil]
 repeat (first | go_big_quiet_skip | (go_big_quiet_want; go_big_quiet_op; go_big_quiet_on))
 refine wpQuiet_nil ?_
 clear hfar1
 refine wpAnyH_ready (rs := [8]) (by kernel_rfl) (by simp) ?_
 refine AllReadyH.cons rfl (fun K hK => ?_) AllReadyH.nil
 go_simp
 go_wp2_with (go_at_call 116; refine (HC.out W4 HB4.out).mono ?_; rintro e w5 ⟨A1, c1, rfl, ho1, hb⟩; rw [HN.out.2])
 refine hK.out _ _ ?_ (fun hHeld => ?_)
 clear hK K
 ·exact HeldS.mk' (HK4.out.at.below hb)
 have HB5 := Lib.hid (keep1 HB4.out hb)
 have HK5 : Hid (GrW b #[.int .u64 u, .int .u64 v, .slice R n1 rc, .slice Wa n0 wc, .int .u64 T] w5) := HK4.out.at.below hb
 have HO1 := Lib.hid ho1
 clear hb ho1 HK4 HC
 refine wpAnyH_ready (rs := [13]) (by kernel_rfl) (by simp) ?_
 refine AllReadyH.cons rfl (fun K hK => ?_) AllReadyH.nil
 go_simp
 go_wp2_with (go_at_call 117; refine (HCW.out w5 HB5.out).mono ?_; rintro e w6 ⟨A2, c2, rfl, ho2, hb⟩; rw [HN.out.1])
 refine hK.out _ _ ?_ (fun hHeld => ?_)
 clear hK K
 ·exact HeldS.mk' (HK5.out.at.below hb)
 have HB6 := Lib.hid (keep1 HB5.out hb)
 have HK6 : Hid (GrW b #[.int .u64 u, .int .u64 v, .slice R n1 rc, .slice Wa n0 wc, .int .u64 T] w6) := HK5.out.at.below hb
 have HO6 : Hid (OwnT W4.heap.size w6 A1 c1 row ∧ OwnW w5.heap.size w6 A2 c2 waits ∧ ∀ k ∈ blk A1, k < w5.heap.size) := ⟨HO1.out.below hb, ho2, fun k hk => by obtain ⟨a, ha, rfl⟩ := blk_mem hk; exact (HO1.out.base_le a ha).2⟩
 clear hb ho2 HK5 HO1 HCW
 refine wpAnyH_run0 [false, false, false, false, false, false, false, false, false, false, false, false, false, false, false, false, false, false, true] 2 (by kernel_rfl) (by kernel_rfl) (fun _ _ _ _ h => h) (by kernel_rfl) hHeld ?_
 simp only [runOps_true, runOps_false, runOps_nil]
 repeat (first | go_big_quiet_skip | (go_big_quiet_want; go_big_quiet_op; go_big_quiet_on))
 refine wpQuiet_nil ?_
 have hba : Below w6.heap.size w6 (w6.alloc (.cells #[.int .u64 u, .int .u64 v, .slice A1 n1 c1, .slice A2 n0 c2, .int .u64 T] 173)) := (Below.refl _ _).alloc (Nat.le_refl _) _
 have aC := At.new w6 #[.int .u64 u, .int .u64 v, .slice A1 n1 c1, .slice A2 n0 c2, .int .u64 T] 173
 refine wpAnyH_ready (rs := [19]) (by kernel_rfl) (by simp) ?_
 refine AllReadyH.cons rfl (fun K hK => ?_) (AllReadyH.nil)
 go_simp
 go_wp2
 refine hK.out _ _ (HeldS.mk' (HK6.out.at.below hba)) (fun hHeld => ?_)
 clear hK K
 refine wpAnyH_run0 [false, false, false, false, false, false, false, false, false, false, false, false, false, false, false, false, false, false, false, false, true] 0 (by kernel_rfl) (by kernel_rfl) (fun _ _ _ _ h => h) (by kernel_rfl) hHeld ?_
 simp only [runOps_true, runOps_false, runOps_nil]
 repeat (first | go_big_quiet_skip | (go_big_quiet_want; go_big_quiet_op; go_big_quiet_on))
 refine wpQuiet_nil ?_
 refine wpAnyH_done (by kernel_rfl) ?_ _
 refine NoPanic.normal ?_
 have HGA : Hid (GrAt (w6.alloc (.cells #[.int .u64 u, .int .u64 v, .slice A1 n1 c1, .slice A2 n0 c2, .int .u64 T] 173)) w6.heap.size u v row waits A1 A2 c1 c2 T ∧ (∀ k ∈ blk A1 ++ blk A2, w.heap.size ≤ k) ∧ w.heap.size ≤ w6.heap.size) := by
  have o1 := HO6.out.1.below hba
  have o2 := HO6.out.2.1.below hba
  have z4 := HB4.out.size
  have z5 := HB5.out.size
  refine ⟨⟨by rw [HN.out.1, HN.out.2]; exact aC, OwnT.mono o1 (Nat.zero_le _), ?_, SepA.of fun k hk hk' => ?_, fun hk => ?_, fun hk => ?_⟩, fun k hk => ?_, HB6.out.size⟩
  ·obtain ⟨h1, h2⟩ := o2
   refine ⟨h1, ?_⟩
   rcases h2 with h2 | ⟨g, c, cur, e, hg, r⟩
   ·exact .inl h2
   ·exact .inr ⟨g, c, cur, e, Nat.zero_le _, r⟩
  ·obtain ⟨a, ha, rfl⟩ := blk_mem hk'
   have h1 := (HO6.out.2.1.base_le a ha).1
   have h2 := HO6.out.2.2 _ hk
   omega
  ·obtain ⟨a, ha, e⟩ := blk_mem hk
   have h1 := (HO6.out.1.base_le a ha).2
   omega
  ·obtain ⟨a, ha, e⟩ := blk_mem hk
   have h1 := (HO6.out.2.1.base_le a ha).2
   omega
  ·rcases List.mem_append.1 hk with h1 | h1
   ·obtain ⟨a, ha, rfl⟩ := blk_mem h1
    have h2 := (HO6.out.1.base_le a ha).1
    omega
   ·obtain ⟨a, ha, rfl⟩ := blk_mem h1
    have h2 := (HO6.out.2.1.base_le a ha).1
    omega
 have HB7 := Lib.hid (keep1 HB6.out hba)
 obtain ⟨W7, hW7⟩ : ∃ W, w6.alloc (.cells #[.int .u64 u, .int .u64 v, .slice A1 n1 c1, .slice A2 n0 c2, .int .u64 T] 173) = W := ⟨_, rfl⟩
 obtain ⟨cb, hcb⟩ : ∃ r, w6.heap.size = r := ⟨_, rfl⟩
 rw [hW7, hcb] at HGA
 rw [hW7] at HB7
 simp only [hW7, hcb]
 clear hne hHeld hba aC HK6 HO6 HB4 HB5 HB6 hW7 hcb
 have HFL := Lib.hid (gflush_any cb u v T row waits A1 A2 c1 c2 l W7 HGA.out.1 HP.out.1 HP.out.2.1 HT.out HP.out.2.2)
 go_wp2_with (go_at_call 270; refine HFL.out.mono ?_)
 rintro e w8 ⟨rfl, row', R', rc', W', wc', ha, hgp, hF, hm⟩
 have HR : Hid (GfdR u v l w (.returned (.slice R' row'.length rc')) w8) := by
  refine ⟨⟨R', rc', row', rfl, ha.own.rd, hgp⟩, hF.below HB7.out HB7.out.size fun k hk => ?_⟩
  rcases List.mem_cons.1 hk with rfl | h1
  ·exact HGA.out.2.2
  ·exact HGA.out.2.1 k h1
 have f8 := ha.box.five
 have l8 := ha.box.lt
 obtain ⟨n2, hn2⟩ : ∃ n2, row'.length = n2 := ⟨_, rfl⟩
 rw [hn2] at HR f8
 clear ha hgp hF hm hn2 HFL HGA
 go_wp2
 go_ret
 exact HR.out
end Go.Proofs.YtlbnlmhcpephbaaGreatDoor

namespace Go.Proofs.YtlbnlmhcpephbaaGreatDoor
open Go.RowKit Tt
theorem GrAt.swap {w w' : World} {b : Nat} {u v T T' : Int} {row row' : List Tu} {waits : List Int} {R R' W : Option Addr} {rc rc' wc : Nat} (h : GrAt w b u v row waits R W rc wc T) (hb : Below w.heap.size w w') (ho : OwnT 0 w' R' rc' row') (hm : ∀ j ∈ blk R', w.heap.size ≤ j) :
  GrAt ((w'.setCell ⟨b, 2, none⟩ (.slice R' row'.length rc')).setCell ⟨b, 4, none⟩ (.int .u64 T')) b u v row' waits R' W rc' wc T' ∧ Frame [b] w ((w'.setCell ⟨b, 2, none⟩ (.slice R' row'.length rc')).setCell ⟨b, 4, none⟩ (.int .u64 T')) := by
 obtain ⟨g1, g2, g3⟩ := h.ge
 have h' := h.below hb
 have hF2 : Frame [b] w' ((w'.setCell ⟨b, 2, none⟩ (.slice R' row'.length rc')).setCell ⟨b, 4, none⟩ (.int .u64 T')) := (Frame.set [b] w' b 2 _ (by simp)).setc (.inl (by simp)) _ _
 refine ⟨⟨(h'.box.set_any 2 (.slice R' row'.length rc') rfl).set_any 4 (.int .u64 T') rfl, ownT_frame ho hF2 fun k hk hm' => ?_, ownW_frame h'.wai hF2 fun k hk hm' => ?_, SepA.of fun k hk hk' => ?_, fun hk => ?_, h.nb.2⟩, (Frame.of_below hb).trans hF2⟩
 ·rw [List.mem_singleton] at hm'; subst hm'
  have := hm k hk; omega
 ·rw [List.mem_singleton] at hm'; subst hm'
  exact h.nb.2 hk
 ·have := hm k hk; have := g2 k hk'; omega
 ·have := hm b hk; omega
def GrW2 (b o : Nat) (cs ds : Array Value) (W : World) : Prop := At W b cs 173 ∧ At W o ds 173
theorem GrW2.at {b o : Nat} {cs ds : Array Value} {W : World} (h : GrW2 b o cs ds W) : At W b cs 173 ∧ At W o ds 173 := h
set_option maxRecDepth 100000 in
set_option maxHeartbeats 4000000 in
theorem gjoin_v (b o : Nat) (S So : List Nat) (u v : Int) (l lo : List (Int × Int)) (w : World) (h : GrV 15 w b S u v l) (k : GrV 15 w o So u v lo) (hap : Apart S So) (hs : sumP l + sumP lo ≤ 1000000) (hsl : sumP l ≤ 1000000) (hso : sumP lo ≤ 1000000) :
  Calls Tryz.prog 309 #[.pointer (some ⟨b, 0, none⟩), .pointer (some ⟨o, 0, none⟩)] w fun e w' => e = .returned (.int .i64 0) ∧ GrG 15 b S u v (l ++ lo) w w' := by
 have H := Lib.hid h
 have KO := Lib.hid k
 have HAP := Lib.hid hap
 have hs1 := h.sum0 hsl
 have hs2 := k.sum0 hso
 have HS := Lib.hid (And.intro hs (And.intro hs1 hs2))
 obtain ⟨row, waits, R, Wa, rc, wc, _, h1, _, _, ho⟩ := h
 obtain ⟨row2, waits2, R2, Wa2, rc2, wc2, _, k1, _, _, _⟩ := k
 have s1 := h1.box
 have t1 := k1.box
 have HO := Lib.hid ho
 obtain ⟨T, hT⟩ : ∃ t, sumP l = t := ⟨_, rfl⟩
 obtain ⟨T2, hT2⟩ : ∃ t, sumP lo = t := ⟨_, rfl⟩
 have HT := Lib.hid (And.intro hT hT2)
 rw [hT] at s1 hs hs1
 rw [hT2] at t1 hs hs2
 obtain ⟨n0, hn0⟩ : ∃ n0, waits.length = n0 := ⟨_, rfl⟩
 obtain ⟨n1, hn1⟩ : ∃ n1, row.length = n1 := ⟨_, rfl⟩
 obtain ⟨n2, hn2⟩ : ∃ n0, waits2.length = n0 := ⟨_, rfl⟩
 obtain ⟨n3, hn3⟩ : ∃ n1, row2.length = n1 := ⟨_, rfl⟩
 rw [hn0, hn1] at s1
 rw [hn2, hn3] at t1
 have f1 := s1.five
 have g1 := t1.five
 obtain ⟨p1, p2⟩ := plus2_yes (show T + T2 ≤ 9223372036854775807 by omega)
 have HP := Lib.hid (And.intro p1 p2)
 have HTS : Hid (0 ≤ T ∧ 0 ≤ T2 ∧ T + T2 ≤ 1000000) := ⟨hs1, hs2, hs⟩
 have HL1 : Hid (b < w.heap.size ∧ o < w.heap.size) := ⟨s1.lt, t1.lt⟩
 clear h1 k1 hn0 hn1 hn2 hn3 hT hT2 p1 p2 hap ho hs hs1 hs2 hsl hso
 go_enter Tryz.func309, Tryz.ntmps309
 go_wp2
 go_quiet (fail)
 have hbD : Below w.heap.size w (w.drewN nq) := (Below.refl _ _).drewN _
 obtain ⟨W0, hW0⟩ : ∃ W0, w.drewN nq = W0 := ⟨_, rfl⟩
 rw [hW0] at hbD ⊢
 clear hW0
 replace s1 := (s1.below hbD).drew
 replace t1 := (t1.below hbD).drew
 have hb1 := hbD.drew
 clear f1 g1 hbD
 go_wp2
 obtain ⟨W1, hW1⟩ : ∃ W1, W0.drew = W1 := ⟨_, rfl⟩
 rw [hW1] at s1 t1 hb1
 have hK1 : GrW2 b o #[.int .u64 u, .int .u64 v, .slice R n1 rc, .slice Wa n0 wc, .int .u64 T] #[.int .u64 u, .int .u64 v, .slice R2 n3 rc2, .slice Wa2 n2 wc2, .int .u64 T2] W1 := ⟨s1, t1⟩
 haveI hne : Nonempty (Held (GrW2 b o #[.int .u64 u, .int .u64 v, .slice R n1 rc, .slice Wa n0 wc, .int .u64 T] #[.int .u64 u, .int .u64 v, .slice R2 n3 rc2, .slice Wa2 n2 wc2, .int .u64 T2])) := ⟨⟨W1, hK1⟩⟩
 have hfar1 := fun z : Held (GrW2 b o #[.int .u64 u, .int .u64 v, .slice R n1 rc, .slice Wa n0 wc, .int .u64 T] #[.int .u64 u, .int .u64 v, .slice R2 n3 rc2, .slice Wa2 n2 wc2, .int .u64 T2]) => z.held.at.1.five
 have hfar2 := fun z : Held (GrW2 b o #[.int .u64 u, .int .u64 v, .slice R n1 rc, .slice Wa n0 wc, .int .u64 T] #[.int .u64 u, .int .u64 v, .slice R2 n3 rc2, .slice Wa2 n2 wc2, .int .u64 T2]) => z.held.at.2.five
 refine wp_region_noPanic ?_
 refine wp_region_held_drew (S := HeldS (GrW2 b o #[.int .u64 u, .int .u64 v, .slice R n1 rc, .slice Wa n0 wc, .int .u64 T] #[.int .u64 u, .int .u64 v, .slice R2 n3 rc2, .slice Wa2 n2 wc2, .int .u64 T2])) (by kernel_rfl) (by rw [hW1]; exact HeldS.mk' hK1) (fun hHeld => ?_)
 rw [hW1] at hHeld ⊢
 clear hW1
 refine wpAnyH_run0 [true, true, true, true, true, true, true, true] 7 (by kernel_rfl) (by kernel_rfl) (fun _ _ _ _ h => h) (by kernel_rfl) hHeld ?_
 simp only [runOps_true, runOps_false, runOps_nil]
 repeat (first | go_big_quiet_skip | (go_big_quiet_want; go_big_quiet_op; go_big_quiet_on))
 refine wpQuiet_nil ?_
 clear hfar1 hfar2
 have hbV : Below W1.heap.size W1 (W1.alloc (.cells #[.int .u64 T, .int .u64 T2] 23)) := (Below.refl _ _).alloc (Nat.le_refl _) _
 have aV := At.new W1 #[.int .u64 T, .int .u64 T2] 23
 have HV : Hid (GrW2 b o #[.int .u64 u, .int .u64 v, .slice R n1 rc, .slice Wa n0 wc, .int .u64 T] #[.int .u64 u, .int .u64 v, .slice R2 n3 rc2, .slice Wa2 n2 wc2, .int .u64 T2] (W1.alloc (.cells #[.int .u64 T, .int .u64 T2] 23))) := ⟨s1.below hbV, t1.below hbV⟩
 have hb2 := keep1 hb1 hbV
 refine wpAnyH_ready (rs := [8]) (by kernel_rfl) (by simp) ?_
 refine AllReadyH.cons rfl (fun K hK => ?_) (AllReadyH.nil)
 go_simp
 refine hK.out _ _ (HeldS.mk' HV.out) (fun hHeld => ?_)
 clear hK K
 refine wpAnyH_ready (rs := [9]) (by kernel_rfl) (by simp) ?_
 refine AllReadyH.cons rfl (fun K hK => ?_) AllReadyH.nil
 go_simp
 go_wp2_with (go_at_call 102; refine (plus2_any W1.heap.size T T2 _ (by have := HTS.out; omega) (by have := HTS.out; omega) (by have := HTS.out; omega) (by have := HTS.out; omega) (aV.cell rfl) (aV.cell rfl)).mono ?_; rintro e w2 ⟨rfl, rfl⟩; rw [HP.out.1, HP.out.2])
 refine hK.out _ _ ?_ (fun hHeld => ?_)
 clear hK K
 ·exact HeldS.mk' HV.out
 refine wpAnyH_run0 [false, false, false, false, false, false, false, false, false, false, true, true, true, true, true] 0 (by kernel_rfl) (by kernel_rfl) (fun _ _ _ _ h => h) (by kernel_rfl) hHeld ?_
 simp only [runOps_true, runOps_false, runOps_nil]
 repeat (first | go_big_quiet_skip | (go_big_quiet_want; go_big_quiet_op; go_big_quiet_on))
 refine wpQuiet_nil ?_
 refine wpAnyH_done (by kernel_rfl) ?_ _
 obtain ⟨W2, hW2⟩ : ∃ W2, W1.alloc (.cells #[.int .u64 T, .int .u64 T2] 23) = W2 := ⟨_, rfl⟩
 rw [hW2] at hb2 ⊢
 refine NoPanic.normal ?_
 have HB2 := Lib.hid hb2
 clear hW2 hbV aV HV s1 t1 hb1 hb2 hne hHeld hK1 HP
 go_wp2_with (go_at_call 270; refine (gflush_v 15 b S u v l W2 (H.out.below HB2.out) (by have := HS.out; omega)).mono ?_)
 rintro e w3 ⟨rfl, S3, hg3, hv3, hF3⟩
 have HG3 : Hid (GrownS S S3 w.heap.size ∧ Frame S w w3) := ⟨fun j hj => (hg3 j hj).imp id fun h => Nat.le_trans HB2.out.size h, (Frame.of_below HB2.out).trans hF3⟩
 have HK3 := Lib.hid ((KO.out.below HB2.out).frame hF3 HAP.out.symm)
 have HV3 := Lib.hid hv3
 obtain ⟨rw3, ws3, R3, W3a, rc3, wc3, hS3, h3, hp3, hws, _⟩ := hv3
 obtain rfl : ws3 = [] := List.eq_nil_of_length_eq_zero (by omega)
 have HH3 := Lib.hid h3
 have HP3 := Lib.hid hp3
 have HS3 : Hid (S3 = b :: (blk R3 ++ blk W3a)) := hS3
 have s3 := h3.box
 have t3 := h3.own.rd
 have HR3 := Lib.hid t3
 obtain ⟨n5, hn5⟩ : ∃ n1, rw3.length = n1 := ⟨_, rfl⟩
 have HN5 := Lib.hid hn5
 rw [hn5, HT.out.1, List.length_nil] at s3
 have HFD := Lib.hid fun W (hb : Below w3.heap.size w3 W) => gflushed_any 15 o So u v lo W (HK3.out.below hb) (by have := HS.out; omega)
 clear hg3 hF3 h3 hp3 hws hS3 t3 hn5
 go_wp2
 have hbd : Below w3.heap.size w3 w3.drew := (Below.refl _ _).drew
 obtain ⟨W4, hW4⟩ : ∃ W, w3.drew = W := ⟨_, rfl⟩
 rw [hW4] at hbd
 have hK4 : GrW b #[.int .u64 u, .int .u64 v, .slice R3 n5 rc3, .slice W3a 0 wc3, .int .u64 T] W4 := s3.below hbd
 have HB4 := Lib.hid hbd
 haveI hne : Nonempty (Held (GrW b #[.int .u64 u, .int .u64 v, .slice R3 n5 rc3, .slice W3a 0 wc3, .int .u64 T])) := ⟨⟨W4, hK4⟩⟩
 have hfar1 := fun v' : Held (GrW b #[.int .u64 u, .int .u64 v, .slice R3 n5 rc3, .slice W3a 0 wc3, .int .u64 T]) => v'.held.at.five
 refine wp_region_noPanic ?_
 refine wp_region_held_drew (S := HeldS (GrW b #[.int .u64 u, .int .u64 v, .slice R3 n5 rc3, .slice W3a 0 wc3, .int .u64 T])) (by kernel_rfl) (by rw [hW4]; exact HeldS.mk' hK4) (fun hHeld => ?_)
 rw [hW4] at hHeld ⊢
 have HK4 := Lib.hid hK4
 clear hW4 hK4 hbd s3
 refine wpAnyH_run0 [true, true, true, true, true] 3 (by kernel_rfl) (by kernel_rfl) (fun _ _ _ _ h => h) (by kernel_rfl) hHeld ?_
 simp only [runOps_true, runOps_false, runOps_nil]
 repeat (first | go_big_quiet_skip | (go_big_quiet_want; go_big_quiet_op; go_big_quiet_on))
 refine wpQuiet_nil ?_
 clear hfar1
 refine wpAnyH_ready (rs := [5]) (by kernel_rfl) (by simp) ?_
 refine AllReadyH.cons rfl (fun K hK => ?_) AllReadyH.nil
 go_simp
 go_wp2_with (go_at_call 313; refine (HFD.out W4 HB4.out).mono ?_; rintro e w5 ⟨⟨A5, c5, qs, rfl, hrq, hpq⟩, hb⟩)
 refine hK.out _ _ ?_ (fun hHeld => ?_)
 clear hK K
 ·exact HeldS.mk' (HK4.out.at.below hb)
 have HB5 := Lib.hid (keep1 HB4.out hb)
 have HK5 : Hid (GrW b #[.int .u64 u, .int .u64 v, .slice R3 n5 rc3, .slice W3a 0 wc3, .int .u64 T] w5) := HK4.out.at.below hb
 obtain ⟨m1, m2, m3, m4, m5, m6, m7⟩ := GrP.merge HP3.out hpq HO.out HS.out.1
 have hql := hpq.len (by have := HS.out; omega)
 have hpl := HP3.out.len (by have := HS.out; omega)
 have HMR := Lib.hid (And.intro m5 m7)
 have HML : Hid ((mergeR (partA rw3 qs) (partB qs rw3)).length = n5 + qs.length ∧ n5 ≤ 1000000 ∧ (mergeR (partA rw3 qs) (partB qs rw3)).length ≤ 1048576) := ⟨by rw [m6, HN5.out], by have := HN5.out; have := HS.out; omega, by rw [m6]; have := HS.out; omega⟩
 have HMG := Lib.hid (tmerge_any R3 A5 rc3 c5 n5 qs.length rw3 qs w5 HN5.out rfl (HR3.out.below HB5.out) hrq m3 m4 m1 m2 (by have := HN5.out; have := hpl.1; omega) (by have := hql.1; omega))
 obtain ⟨n6, hn6⟩ : ∃ n, qs.length = n := ⟨_, rfl⟩
 rw [hn6] at HMG HML
 simp only [hn6]
 clear hb HK4 m1 m2 m3 m4 m5 m6 m7 hql hpl hrq hpq HFD hn6
 refine wpAnyH_ready (rs := [6]) (by kernel_rfl) (by simp) ?_
 refine AllReadyH.cons rfl (fun K hK => ?_) AllReadyH.nil
 go_simp
 go_wp2_with (go_at_call 312; refine HMG.out.mono ?_; rintro e w6 ⟨⟨A6, c6, rfl, hO6⟩, hb⟩)
 refine hK.out _ _ ?_ (fun hHeld => ?_)
 clear hK K
 ·exact HeldS.mk' (HK5.out.at.below hb)
 have HB6 := Lib.hid (keep1 HB5.out hb)
 have HO6 : Hid (OwnT 0 w6 A6 c6 (mergeR (partA rw3 qs) (partB qs rw3)) ∧ ∀ k ∈ blk A6, w3.heap.size ≤ k) := ⟨OwnT.mono hO6 (Nat.zero_le _), fun k hk => by obtain ⟨a, ha, rfl⟩ := blk_mem hk; have := (hO6.base_le a ha).1; have := HB5.out.size; omega⟩
 have HK6 : Hid (At w6 b #[.int .u64 u, .int .u64 v, .slice R3 n5 rc3, .slice W3a 0 wc3, .int .u64 T] 173) := HK5.out.at.below hb
 clear hb hO6 HMG HK5
 refine wpAnyH_run0 [false, false, false, false, false, false, false, true] 0 (by kernel_rfl) (by kernel_rfl) (fun _ _ _ _ h => h) (by kernel_rfl) hHeld ?_
 simp only [runOps_true, runOps_false, runOps_nil]
 repeat (first | go_big_quiet_skip | (go_big_quiet_want; go_big_quiet_op; go_big_quiet_on))
 refine wpQuiet_nil ?_
 refine wpAnyH_done (by kernel_rfl) ?_ _
 refine NoPanic.normal ?_
 clear hne hHeld
 obtain ⟨M, hM⟩ : ∃ M, mergeR (partA rw3 qs) (partB qs rw3) = M := ⟨_, rfl⟩
 rw [hM] at HMR HML HO6
 obtain ⟨n7, hn7⟩ : ∃ n, n5 + n6 = n := ⟨_, rfl⟩
 rw [hn7] at HML
 simp only [hn7]
 clear hM hn7
 have f6 := HK6.out.five
 have l6 := HK6.out.lt
 have HUV := Lib.hid (gwOk_bd HO.out)
 go_wp2_with (go_at_call 115; refine (limit_any u v (T + T2) w6 (by have := HUV.out; omega) (by have := HUV.out; omega) (by have := HTS.out; omega)).mono ?_)
 rintro e w7 ⟨rfl, hb⟩
 have HB7 := Lib.hid (keep1 HB6.out hb)
 have HO7 := Lib.hid (HO6.out.1.below hb)
 have HSQ := Lib.hid (squeeze_any 0 A6 c6 M (limT u v (T + T2)) w7 HO7.out HMR.out.1 HML.out.2.2)
 rw [HML.out.1] at HSQ
 clear hb f6 l6
 go_wp2_with (go_at_call 278; refine HSQ.out.mono ?_)
 rintro e w8 ⟨qs8, rfl, hO8, hSq, hF8⟩
 have HB8 : Hid (Below w3.heap.size w3 w8) := hF8.below HB7.out HB7.out.size HO6.out.2
 have hsw := HH3.out.swap (T' := T + T2) HB8.out hO8 HO6.out.2
 have HGP : Hid (GrP u v qs8 [] (l ++ lo)) := HMR.out.2 qs8 (by rw [HT.out.1, HT.out.2]; exact hSq)
 have f8 := (HH3.out.box.below HB8.out).five
 have l8 := (HH3.out.box.below HB8.out).lt
 have HSW := Lib.hid hsw
 clear hO8 hSq hF8 hsw HSQ HO7
 go_wp2
 have HR : Hid (GrG 15 b S u v (l ++ lo) w ((w8.setCell ⟨b, 2, none⟩ (.slice A6 qs8.length c6)).setCell ⟨b, 4, none⟩ (.int .u64 (T + T2)))) := by
  have hg : ∀ j ∈ b :: (blk A6 ++ blk W3a), j ∈ S ∨ w.heap.size ≤ j := fun j hj => by
   have hS3 := HS3.out
   rcases List.mem_cons.1 hj with rfl | hj
   ·exact HG3.out.1 j (by rw [hS3]; simp)
   ·rcases List.mem_append.1 hj with h1 | h1
    ·exact .inr (Nat.le_trans HG3.out.2.size (HO6.out.2 j h1))
    ·exact HG3.out.1 j (by rw [hS3]; simp [h1])
  refine ⟨b :: (blk A6 ++ blk W3a), hg, ⟨qs8, [], A6, W3a, c6, wc3, rfl, by rw [sumP_append, HT.out.1, HT.out.2]; exact HSW.out.1, HGP.out, by simp, HO.out⟩, frame_join HG3.out.2 (fun j hj => hg j ?_) HSW.out.2⟩
  rw [List.mem_singleton] at hj
  simp [hj]
 clear f8 l8 HSW
 go_wp2
 go_ret
 exact ⟨rfl, HR.out⟩
end Go.Proofs.YtlbnlmhcpephbaaGreatDoor

namespace Go.Proofs.YtlbnlmhcpephbaaGreatDoor
open Go.RowKit Tt
def GrA (u v : Int) (l : List (Int × Int)) (t x : Int) : Prop :=
 (-9223372036854775808 ≤ x ∧ x ≤ 9223372036854775807) ∧ upV l (x - 1) < upV l x ∧ 0 ≤ (if t < upV l (x - 1) + 1 then upV l (x - 1) + 1 - t else if upV l x < t then t - upV l x else 0) ∧
   (if t < upV l (x - 1) + 1 then upV l (x - 1) + 1 - t else if upV l x < t then t - upV l x else 0) * v ≤ u * sumP l
set_option maxRecDepth 100000 in
set_option maxHeartbeats 2000000 in
theorem gquant_v (b : Nat) (S : List Nat) (u v p0 p1 : Int) (l : List (Int × Int)) (w : World) (h : GrV 15 w b S u v l) (hs : sumP l ≤ 1000000) (hp : (0 ≤ p0 ∧ p0 < 18446744073709551616) ∧ (0 ≤ p1 ∧ p1 < 18446744073709551616)) :
  Calls Tryz.prog 272 #[.pointer (some ⟨b, 0, none⟩), .agg #[.int .u64 p0, .int .u64 p1]] w fun e w' => ∃ x f, e = .returned (.tuple #[.int .i64 x, .int .i64 f]) ∧ f = placeE p0 p1 (sumP l) ∧ (f = 0 → GrA u v l (placeT p0 p1 (sumP l)) x) ∧ GrG 15 b S u v l w w' := by
 have H := Lib.hid h
 have HS := Lib.hid (And.intro hs (h.sum0 hs))
 have HPB := Lib.hid hp
 obtain ⟨row, waits, R, Wa, rc, wc, _, h1, _, _, ho⟩ := h
 have hbox := h1.box
 have HO := Lib.hid ho
 have hba : Below w.heap.size w (w.alloc (.cells #[.int .u64 p0, .int .u64 p1] 25)) := (Below.refl _ _).alloc (Nat.le_refl _) _
 have ap := At.new w #[.int .u64 p0, .int .u64 p1] 25
 have HPL := Lib.hid fun W => place_any p0 p1 (sumP l) W hp.1.1 hp.1.2 hp.2.1 hp.2.2 HS.out.2 (by have := HS.out; omega)
 have HPE : Hid (placeE p0 p1 (sumP l) = 0 → 1 ≤ placeT p0 p1 (sumP l) ∧ placeT p0 p1 (sumP l) ≤ sumP l) := fun hE => by
  have hg : goodF p0 p1 = true := by unfold placeE at hE; split at hE <;> simp_all
  have hz : sumP l ≠ 0 := fun hz => by unfold placeE at hE; rw [if_pos hg, if_pos hz] at hE; omega
  have := placeT_is (n := sumP l) hp.1.1 (by have := HS.out; omega) (by have := HS.out; omega) hg
  exact ⟨this.one, this.le⟩
 have ha1 := hbox.below hba
 obtain ⟨T, hT⟩ : ∃ t, sumP l = t := ⟨_, rfl⟩
 have HT := Lib.hid hT
 rw [hT] at ha1 HPL HPE ⊢
 obtain ⟨n0, hn0⟩ : ∃ n0, waits.length = n0 := ⟨_, rfl⟩
 obtain ⟨n1, hn1⟩ : ∃ n1, row.length = n1 := ⟨_, rfl⟩
 rw [hn0, hn1] at ha1
 obtain ⟨pT, hpT⟩ : ∃ z, placeT p0 p1 T = z := ⟨_, rfl⟩
 obtain ⟨pE, hpE⟩ : ∃ z, placeE p0 p1 T = z := ⟨_, rfl⟩
 rw [hpT, hpE] at HPL HPE ⊢
 clear h1 ho hp hs hbox hT hn0 hn1 hpT hpE
 go_enter Tryz.func272, Tryz.ntmps272
 go_wp2_with fail
 obtain ⟨W1, hW1⟩ : ∃ W, w.alloc (.cells #[.int .u64 p0, .int .u64 p1] 25) = W := ⟨_, rfl⟩
 obtain ⟨pb, hpb⟩ : ∃ r, w.heap.size = r := ⟨_, rfl⟩
 rw [hW1] at hba ha1 ap
 rw [hpb] at ap
 simp only [hW1, hpb]
 have HBA := Lib.hid hba
 clear hW1 hpb hba
 have hfar1 := fun x : Far W1 => (x.at ha1).five
 have hfar2 := fun x : Far W1 => (x.at ap).two
 refine wp_region_far (by kernel_rfl) (by kernel_rfl) ?_
 repeat (first | go_big_quiet_skip | (go_big_quiet_want; go_big_quiet_op; first | go_big_quiet_on | (apply Exists.intro; refine ⟨fun _ => ?_, ?_⟩; (focus (first | (with_reducible refine far_of (HPL.out _)))); go_big_quiet_on)))
 refine wpQuiet_nil ?_
 rintro _ ⟨xq, rfl⟩
 clear hfar1 hfar2
 have hb2 := keep1 HBA.out xq.below
 obtain ⟨W2, hW2⟩ : ∃ W, xq.far = W := ⟨_, rfl⟩
 rw [hW2] at hb2 ⊢
 have HB2 := Lib.hid hb2
 clear ap ha1 hb2 hW2
 by_cases hE : pE = 0
 ·subst hE
  obtain ⟨t1, t2⟩ := HPE.out rfl
  have HTB : Hid (1 ≤ pT ∧ pT ≤ T) := ⟨t1, t2⟩
  clear t1 t2 HPE HPL
  go_wp2_with (go_at_call 270; refine (gflush_v 15 b S u v l W2 (H.out.below HB2.out) HS.out.1).mono ?_)
  rintro e w3 ⟨rfl, S3, hg3, hv3, hF3⟩
  have HG3 : Hid (GrG 15 b S u v l w w3) := ⟨S3, fun j hj => (hg3 j hj).imp id fun h => Nat.le_trans HB2.out.size h, hv3.mono (by omega), (Frame.of_below HB2.out).trans hF3⟩
  obtain ⟨rw3, ws3, R3, W3a, rc3, wc3, hS3, h3, hp3, hws, _⟩ := hv3
  obtain rfl : ws3 = [] := List.eq_nil_of_length_eq_zero (by omega)
  have f3 := h3.box.five
  have l3 := h3.box.lt
  rw [HT.out, List.length_nil] at f3
  have hl3 := hp3.len HS.out.1
  have HFI := Lib.hid (tfind_any R3 rc3 rw3.length rw3 pT w3 rfl h3.own.rd (hp3.bdS HO.out HS.out.1) (by have := HTB.out; have := HT.out; have := HS.out; omega) (by omega))
  have HFD : Hid (∀ best x at', FindJ rw3 pT rw3.length best x at' → GrA u v l pT x) := fun best x at' hf => hp3.find HO.out HS.out.1 (by rw [HT.out]; exact HTB.out) hf
  obtain ⟨n3, hn3⟩ : ∃ n1, rw3.length = n1 := ⟨_, rfl⟩
  rw [hn3] at f3 HFI HFD
  clear hg3 hF3 h3 hp3 hws hS3 hn3 hl3
  go_wp2_with (go_at_call 279; refine HFI.out.mono ?_)
  rintro e w4 ⟨⟨best, x, at', rfl, hf⟩, hb⟩
  have HX := Lib.hid (HFD.out best x at' hf)
  have HR : Hid (GrG 15 b S u v l w w4) := by
   obtain ⟨S4, g4, v4, F4⟩ := HG3.out
   exact ⟨S4, g4, v4.below hb, F4.trans (Frame.of_below hb)⟩
  clear hf hb HFI HFD f3 l3
  go_wp2
  go_ret2
  exact ⟨x, 0, rfl, rfl, fun _ => HX.out, HR.out⟩
 ·have hE1 : (pE != 0) = true := bne_iff_ne.2 hE
  have HR : Hid (GrG 15 b S u v l w W2) := GrG.same H.out HB2.out
  have HE0 : Hid (pE ≠ 0) := hE
  clear HPL HPE hE
  go_wp2
  go_ret2
  exact ⟨0, pE, rfl, rfl, fun h => absurd h HE0.out, HR.out⟩
def GrowR' (row : List Tu) (waits : List Int) (w : World) (e : Ending) (w' : World) : Prop :=
 (∃ A c A' c', e = .returned (.tuple #[.slice A row.length c, .slice A' waits.length c']) ∧ OwnT w.heap.size w' A c row ∧ OwnW w.heap.size w' A' c' waits) ∧ Below w.heap.size w w'
set_option maxRecDepth 100000 in
set_option maxHeartbeats 2000000 in
theorem growsr_any (b : Nat) (u v T : Int) (row : List Tu) (waits : List Int) (R Wa : Option Addr) (rc wc : Nat) (w : World) (h : GrAt w b u v row waits R Wa rc wc T) (hl : row.length ≤ 1048576) (hl' : waits.length ≤ 1048576) :
  Calls Tryz.prog 310 #[.pointer (some ⟨b, 0, none⟩)] w fun e w' => GrowR' row waits w e w' := by
 have HC := Lib.hid fun W (hb : Below w.heap.size w W) => Tt.clone_any 0 R rc row W (h.own.below hb) hl
 have HCW := Lib.hid fun W (hb : Below w.heap.size w W) => cloneW_any 0 Wa wc waits W (h.wai.below hb) hl'
 have hbox := h.box
 obtain ⟨n0, hn0⟩ : ∃ n0, waits.length = n0 := ⟨_, rfl⟩
 obtain ⟨n1, hn1⟩ : ∃ n1, row.length = n1 := ⟨_, rfl⟩
 have HN := Lib.hid (And.intro hn0 hn1)
 rw [hn0, hn1] at hbox
 simp only [hn0] at HCW
 simp only [hn1] at HC
 clear h hn0 hn1 hl hl'
 go_enter Tryz.func310, Tryz.ntmps310
 go_wp2
 have hbd : Below w.heap.size w w.drew := (Below.refl _ _).drew
 obtain ⟨W4, hW4⟩ : ∃ W, w.drew = W := ⟨_, rfl⟩
 rw [hW4] at hbd
 have hK4 : GrW b #[.int .u64 u, .int .u64 v, .slice R n1 rc, .slice Wa n0 wc, .int .u64 T] W4 := hbox.below hbd
 have HB4 := Lib.hid hbd
 haveI hne : Nonempty (Held (GrW b #[.int .u64 u, .int .u64 v, .slice R n1 rc, .slice Wa n0 wc, .int .u64 T])) := ⟨⟨W4, hK4⟩⟩
 have hfar1 := fun v' : Held (GrW b #[.int .u64 u, .int .u64 v, .slice R n1 rc, .slice Wa n0 wc, .int .u64 T]) => v'.held.at.five
 refine wp_region_noPanic ?_
 refine wp_region_held_drew (S := HeldS (GrW b #[.int .u64 u, .int .u64 v, .slice R n1 rc, .slice Wa n0 wc, .int .u64 T])) (by kernel_rfl) (by rw [hW4]; exact HeldS.mk' hK4) (fun hHeld => ?_)
 rw [hW4] at hHeld ⊢
 have HK4 := Lib.hid hK4
 clear hW4 hK4 hbd hbox
 refine wpAnyH_run0 [true, true, true, true, false, true, true, true, true] 4 (by kernel_rfl) (by kernel_rfl) (fun _ _ _ _ h => h) (by kernel_rfl) hHeld ?_
 simp only [runOps_true, runOps_false, runOps_nil]
 repeat (first | go_big_quiet_skip | (go_big_quiet_want; go_big_quiet_op; go_big_quiet_on))
 refine wpQuiet_nil ?_
 clear hfar1
 refine wpAnyH_ready (rs := [4]) (by kernel_rfl) (by simp) ?_
 refine AllReadyH.cons rfl (fun K hK => ?_) AllReadyH.nil
 go_simp
 go_wp2_with (go_at_call 116; refine (HC.out W4 HB4.out).mono ?_; rintro e w5 ⟨A1, c1, rfl, ho1, hb⟩; rw [HN.out.2])
 refine hK.out _ _ ?_ (fun hHeld => ?_)
 clear hK K
 ·exact HeldS.mk' (HK4.out.at.below hb)
 have HB5 := Lib.hid (keep1 HB4.out hb)
 have HK5 : Hid (GrW b #[.int .u64 u, .int .u64 v, .slice R n1 rc, .slice Wa n0 wc, .int .u64 T] w5) := HK4.out.at.below hb
 have HO1 := Lib.hid ho1
 clear hb ho1 HK4 HC
 refine wpAnyH_ready (rs := [9]) (by kernel_rfl) (by simp) ?_
 refine AllReadyH.cons rfl (fun K hK => ?_) AllReadyH.nil
 go_simp
 go_wp2_with (go_at_call 117; refine (HCW.out w5 HB5.out).mono ?_; rintro e w6 ⟨A2, c2, rfl, ho2, hb⟩; rw [HN.out.1])
 refine hK.out _ _ ?_ (fun hHeld => ?_)
 clear hK K
 ·exact HeldS.mk' (HK5.out.at.below hb)
 have HR : Hid (GrowR' row waits w (.returned (.tuple #[.slice A1 n1 c1, .slice A2 n0 c2])) w6) := by
  refine ⟨⟨A1, c1, A2, c2, by rw [HN.out.1, HN.out.2], OwnT.mono (HO1.out.below hb) HB4.out.size, ?_⟩, keep1 HB5.out hb⟩
  obtain ⟨h1, h2⟩ := ho2
  refine ⟨h1, ?_⟩
  rcases h2 with h2 | ⟨g, c, cur, e, hg, r⟩
  ·exact .inl h2
  ·exact .inr ⟨g, c, cur, e, Nat.le_trans HB5.out.size hg, r⟩
 clear hb ho2 HK5 HO1 HCW
 refine wpAnyH_run0 [false, false, false, false, false, false, false, false, false, false, true, true] 0 (by kernel_rfl) (by kernel_rfl) (fun _ _ _ _ h => h) (by kernel_rfl) hHeld ?_
 simp only [runOps_true, runOps_false, runOps_nil]
 repeat (first | go_big_quiet_skip | (go_big_quiet_want; go_big_quiet_op; go_big_quiet_on))
 refine wpQuiet_nil ?_
 refine wpAnyH_done (by kernel_rfl) ?_ _
 refine NoPanic.normal ?_
 clear hne hHeld
 go_wp2
 go_ret2
 exact HR.out
set_option maxRecDepth 100000 in
theorem gpart_any (b : Nat) (u v : Int) (X Y Z : Value) (w : World) (h : At w b #[.int .u64 u, .int .u64 v, X, Y, Z] 173) :
  Calls Tryz.prog 311 #[.pointer (some ⟨b, 0, none⟩)] w fun e w' => e = .returned (.agg #[.int .u64 u, .int .u64 v]) ∧ Below w.heap.size w w' := by
 have f1 := (h.below ((Below.refl _ _).alloc (Nat.le_refl _) (.cells #[.int .u64 0, .int .u64 0] 25))).five
 have s1 := At.new w #[.int .u64 0, .int .u64 0] 25
 clear h
 go_enter Tryz.func311, Tryz.ntmps311
 go_wp2
 have d2 := (s1.set2 (.int .u64 u) (.int .u64 v)).two
 exact bodyPost_ret (v := .agg #[.int .u64 u, .int .u64 v]) (by simp only [results, Tryz.f311]; simp [go_sem, d2]) rfl ⟨rfl, (by repeat (first | with_reducible assumption | with_reducible exact Below.refl _ _ | with_reducible refine Below.drew ?_ | with_reducible refine Below.drewN ?_ _ | with_reducible refine Below.setCell ?_ (by first | omega | (simp; done) | (simp; omega)) _ | with_reducible refine Below.alloc ?_ (by first | omega | (simp; done) | (simp; omega) | (simp [World.setCell]; omega)) _))⟩
end Go.Proofs.YtlbnlmhcpephbaaGreatDoor

namespace Go.Proofs.YtlbnlmhcpephbaaGreatDoor
open Go.RowKit Tt
def totOk (ps : List Tu) : Bool := decide (sg ps ≤ 9223372036854775807)
def totT (ps : List Tu) : Int := if sg ps ≤ 9223372036854775807 then sg ps else 0
theorem sg_take_le {ps : List Tu} (h : okT ps) (k : Nat) : 0 ≤ sg (ps.take k) ∧ sg (ps.take k) ≤ sg ps := by
 have nn : ∀ l : List Tu, (∀ t ∈ l, 0 ≤ t.2.1) → 0 ≤ sg l := fun l => by
  induction l with
  | nil => intro _; simp [sg_nil]
  | cons t l ih => intro hh; rw [sg_cons]; have := hh t (by simp); have := ih fun u hu => hh u (by simp [hu]); omega
 have h1 := nn (ps.take k) fun t ht => (h t (List.mem_of_mem_take ht)).2.1.1
 have h2 := nn (ps.drop k) fun t ht => (h t (List.mem_of_mem_drop ht)).2.1.1
 have h3 : sg ps = sg (ps.take k) + sg (ps.drop k) := by rw [← sg_append, List.take_append_drop]
 omega
theorem sg_take_succ {ps : List Tu} {k : Nat} (hk : k < ps.length) : sg (ps.take (k + 1)) = sg (ps.take k) + (ps[k]'hk).2.1 := by
 rw [(take_split hk).2, sg_append, sg_cons, sg_nil]
 omega
set_option maxRecDepth 100000 in
set_option maxHeartbeats 2000000 in
theorem total_any (A : Option Addr) (c len : Nat) (ps : List Tu) (w : World) (hlen : ps.length = len) (h : RdT w A ps) (hok : okT ps) (hl : len ≤ 1048576) :
  Calls Tryz.prog 113 #[.slice A len c] w fun e w' => e = .returned (.tuple #[.int .u64 (totT ps), .bool (totOk ps)]) ∧ Below w.heap.size w w' := by
 have HR := Lib.hid h
 have HLN := Lib.hid hlen
 have HOK := Lib.hid hok
 clear h hlen hok
 obtain ⟨tv, htv⟩ : ∃ tv, totT ps = tv := ⟨_, rfl⟩
 obtain ⟨tb, htb⟩ : ∃ tb, totOk ps = tb := ⟨_, rfl⟩
 have HTV := Lib.hid (And.intro htv htb)
 rw [htv, htb]
 clear htv htb
 go_enter Tryz.func113, Tryz.ntmps113
 go_wp2
 go_loopw [4, 5, 7, 10] (fun a _ _ i wr => ∃ k : Nat, ∃ av : Int, k ≤ len ∧ i = .int .i64 k ∧ a = .int .u64 av ∧ 0 ≤ av ∧ av ≤ 9223372036854775807 ∧ Hid (av = sg (ps.take k)) ∧ Below w.heap.size w wr) (fun _ _ _ i _ => len - (intOf i).toNat)
 case atStart => exact ⟨0, 0, by omega, rfl, rfl, by omega, by omega, by show _ = _; simp [sg_nil], Below.refl _ _⟩
 case round =>
  obtain ⟨k, av, hk, rfl, rfl, ha0, ha1, HA, hB⟩ := hrel
  by_cases hlt : k < len
  ·have hkl : k < ps.length := by have := HLN.out; omega
   obtain ⟨g', o', e, hg', d1, d2, d3⟩ := (HR.out.below hB).at k hkl
   subst e
   have HO2 := Lib.hid (HOK.out _ (List.getElem_mem hkl))
   have HS := Lib.hid (sg_take_succ hkl)
   obtain ⟨⟨z1, z2, z3⟩, hz⟩ : ∃ z, ps[k]'hkl = z := ⟨_, rfl⟩
   rw [hz] at d1 d2 d3 HO2 HS
   dsimp only at d1 d2 d3 HO2 HS
   rw [← HA.out] at HS
   have k0 : (0 : Int) ≤ k := by omega
   have k1 : (k : Int) < len := by omega
   have k2 : IntKind.i64.wrap ((k : Int) + 1) = ((k + 1 : Nat) : Int) := by simp only [IntKind.wrap_i64]; omega
   have hz0 := HO2.out.2.1
   obtain ⟨B, hBs⟩ : ∃ B, wr.heap.size = B := ⟨_, rfl⟩
   clear hz hkl HR
   by_cases hle : av + z2 ≤ 9223372036854775807
   ·obtain ⟨p1, p2⟩ := plus2_yes hle
    go_wp2_with (go_at_call 102; refine (plus2_any (B + 1) av z2 _ ha0 (by omega) hz0.1 hz0.2 ?_ ?_).mono ?_)
    ·exact (At.new' _ #[.int .u64 av, .int .u64 z2] 23 (by simp [hBs])).cell rfl
    ·exact (At.new' _ #[.int .u64 av, .int .u64 z2] 23 (by simp [hBs])).cell rfl
    rintro e w2 ⟨rfl, rfl⟩
    rw [p1, p2]
    have HA2 : Hid (av + z2 = sg (ps.take (k + 1))) := HS.out.symm
    clear d1 d2 d3 p1 p2 HS
    go_wp2
    go_roundw
    case rel => exact ⟨k + 1, av + z2, by omega, by simp, rfl, by omega, hle, HA2, Below.alloc (Below.alloc hB hB.size _) (Nat.le_trans hB.size (by simp)) _⟩
    case measure => simp [intOf]; omega
   ·obtain ⟨p1, p2⟩ := plus2_no hle
    have HE : Hid (tv = 0 ∧ tb = false) := by
     have h1 := sg_take_le HOK.out (k + 1)
     have h2 := HS.out
     have h3 := HTV.out
     unfold totT totOk at h3
     rw [if_neg (by omega), decide_eq_false (by omega)] at h3
     exact ⟨h3.1.symm, h3.2.symm⟩
    go_wp2_with (go_at_call 102; refine (plus2_any (B + 1) av z2 _ ha0 (by omega) hz0.1 hz0.2 ?_ ?_).mono ?_)
    go_ret2
    exact ⟨by rw [HE.out.1, HE.out.2]; rfl, Below.alloc (Below.alloc hB hB.size _) (Nat.le_trans hB.size (by simp)) _⟩
  ·obtain rfl : k = len := by omega
   have HE : Hid (tv = av ∧ tb = true) := by
    have h2 := HA.out
    rw [List.take_of_length_le (by rw [HLN.out]; exact Nat.le_refl _)] at h2
    have h3 := HTV.out
    unfold totT totOk at h3
    rw [if_pos (by omega), decide_eq_true (by omega)] at h3
    exact ⟨by rw [h2]; exact h3.1.symm, h3.2.symm⟩
   clear HR
   go_wp2
   go_ret2
   exact ⟨by rw [HE.out.1, HE.out.2]; rfl, hB⟩
end Go.Proofs.YtlbnlmhcpephbaaGreatDoor

namespace Go.Proofs.YtlbnlmhcpephbaaGreatDoor
open Go.RowKit Tt
def SomeB (e : Ending) : Prop := ∃ b : Bool, e = .returned (.bool b)
set_option maxRecDepth 100000 in
set_option maxHeartbeats 4000000 in
theorem tgood_any (A : Option Addr) (c len : Nat) (ps : List Tu) (w : World) (hlen : ps.length = len) (h : RdT w A ps) (hok : okT ps) (hl : len ≤ 1048576) :
    Calls Tryz.prog 114 #[.slice A len c] w fun e w' => SomeB e ∧ Below w.heap.size w w' := by
  have HC := Lib.hid (total_any A c len ps w hlen h hok hl)
  have HR := Lib.hid h
  have HLN := Lib.hid hlen
  clear h hlen hok
  obtain ⟨tv, htv⟩ : ∃ tv, totT ps = tv := ⟨_, rfl⟩
  obtain ⟨tb, htb⟩ : ∃ tb, totOk ps = tb := ⟨_, rfl⟩
  rw [htv, htb] at HC
  clear htv htb
  cases tb with
  | false =>
    go_enter Tryz.func114, Tryz.ntmps114
    go_wp2_with (go_at_call 113; refine HC.out.mono ?_)
    rintro e w1 ⟨rfl, hB⟩
    go_wp2
    go_ret
    exact ⟨⟨_, rfl⟩, hB⟩
  | true =>
    go_enter Tryz.func114, Tryz.ntmps114
    go_wp2_with (go_at_call 113; refine HC.out.mono ?_)
    rintro e w1 ⟨rfl, hB1⟩
    clear HC
    go_wp2
    go_loopw [5, 6, 7, 17] (fun a _ _ i wr => ∃ k : Nat, ∃ av : Int, k ≤ len ∧ i = .int .i64 k ∧ a = .int .u64 av ∧ Below w.heap.size w wr) (fun _ _ _ i _ => len - (intOf i).toNat)
    case atStart => exact ⟨0, 0, by omega, rfl, rfl, hB1⟩
    case round =>
      obtain ⟨k, av, hk, rfl, rfl, hB⟩ := hrel
      clear hB1
      by_cases hlt : k < len
      · have hkl : k < ps.length := by have := HLN.out; omega
        obtain ⟨g', o', e, hg', d1, d2, d3⟩ := (HR.out.below hB).at k hkl
        subst e
        obtain ⟨⟨z1, z2, z3⟩, hz⟩ : ∃ z, ps[k]'hkl = z := ⟨_, rfl⟩
        rw [hz] at d1 d2 d3
        dsimp only at d1 d2 d3
        have k0 : (0 : Int) ≤ k := by omega
        have k1 : (k : Int) < len := by omega
        have k2 : IntKind.i64.wrap ((k : Int) + 1) = ((k + 1 : Nat) : Int) := by simp only [IntKind.wrap_i64]; omega
        have k3 : IntKind.i64.wrap ((k : Int) - 1) = (k : Int) - 1 := by simp only [IntKind.wrap_i64]; omega
        obtain ⟨B, hBs⟩ : ∃ B, wr.heap.size = B := ⟨_, rfl⟩
        clear hz
        go_wp2
        have sB := At.new' wr #[.int .i64 z1, .int .u64 z2, .int .u64 z3] 230 hBs.symm
        have bA : Below wr.heap.size wr (wr.alloc (.cells #[.int .i64 z1, .int .u64 z2, .int .u64 z3] 230)) := (Below.refl _ _).alloc (Nat.le_refl _) _
        generalize wr.alloc (.cells #[.int .i64 z1, .int .u64 z2, .int .u64 z3] 230) = wa at sB bA ⊢
        have fB := sB.three
        obtain ⟨av2, hav2⟩ : ∃ av2, IntKind.u64.wrap (av + z2) = av2 := ⟨_, rfl⟩
        rw [hav2]
        obtain ⟨lv, hlv⟩ : ∃ lv, IntKind.u64.wrap (tv - av2) = lv := ⟨_, rfl⟩
        by_cases c1 : z2 = 0
        · have c1' : (z2 == 0) = true := by rw [c1]; rfl
          clear c1 HR
          have hfar1 := fun x : Far wa => (x.at sB).three
          refine wp_region_far (by kernel_rfl) (by kernel_rfl) ?_
          repeat (first | go_big_quiet_skip | (go_big_quiet_want; go_big_quiet_op; first | go_big_quiet_on | (apply Exists.intro; refine ⟨fun _ => ?_, ?_⟩; (focus (first | fail)); go_big_quiet_on)))
          refine wpQuiet_nil ?_
          rintro _ ⟨xq, rfl⟩
          clear hfar1
          go_wp2
          go_ret
          exact ⟨⟨_, rfl⟩, keep1 hB (bA.trans ((Far.below xq).mono bA.size))⟩
        · have c1' : (z2 == 0) = false := beq_eq_false_iff_ne.2 c1
          by_cases c2 : lv < z3
          · clear c1 HR
            have hfar1 := fun x : Far wa => (x.at sB).three
            refine wp_region_far (by kernel_rfl) (by kernel_rfl) ?_
            repeat (first | go_big_quiet_skip | (go_big_quiet_want; go_big_quiet_op; first | go_big_quiet_on | (apply Exists.intro; refine ⟨fun _ => ?_, ?_⟩; (focus (first | fail)); go_big_quiet_on)))
            refine wpQuiet_nil ?_
            rintro _ ⟨xq, rfl⟩
            clear hfar1
            go_wp2
            go_ret
            exact ⟨⟨_, rfl⟩, keep1 hB (bA.trans ((Far.below xq).mono bA.size))⟩
          · by_cases c3 : k = 0
            · have c3' : decide ((0 : Int) < k) = false := decide_eq_false (by omega)
              have c3'' : decide (0 < k) = false := decide_eq_false (by omega)
              clear c1 c3 HR
              have hfar1 := fun x : Far wa => (x.at sB).three
              refine wp_region_far (by kernel_rfl) (by kernel_rfl) ?_
              repeat (first | go_big_quiet_skip | (go_big_quiet_want; go_big_quiet_op; first | go_big_quiet_on | (apply Exists.intro; refine ⟨fun _ => ?_, ?_⟩; (focus (first | fail)); go_big_quiet_on)))
              refine wpQuiet_nil ?_
              rintro _ ⟨xq, rfl⟩
              clear hfar1
              go_wp2
              go_roundw
              case rel => exact ⟨k + 1, av2, by omega, by simp, rfl, keep1 hB (bA.trans ((Far.below xq).mono bA.size))⟩
              case measure => simp [intOf]; omega
            · have c3' : decide ((0 : Int) < k) = true := decide_eq_true (by omega)
              have c3'' : decide (0 < k) = true := decide_eq_true (by omega)
              obtain ⟨g2, o2, e2, hg2, t1, _, _⟩ := (HR.out.below hB).at (k - 1) (by omega)
              cases e2
              obtain ⟨pv, hpv⟩ : ∃ pv, (ps[k - 1]'(by omega)).1 = pv := ⟨_, rfl⟩
              rw [hpv] at t1
              have k4 : (0 : Int) ≤ (k : Int) - 1 := by omega
              have k5 : (k : Int) - 1 < len := by omega
              have k6 : ((k : Int) - 1).toNat = k - 1 := by omega
              have hgW : g' < wa.heap.size := Nat.lt_of_lt_of_le hg' bA.size
              have hfa1 := fun x : Far wa => x.cell hgW (cellB bA hg' t1)
              by_cases c4 : z1 < pv
              · clear c1 c3 HR hpv t1
                have hfar1 := fun x : Far wa => (x.at sB).three
                refine wp_region_far (by kernel_rfl) (by kernel_rfl) ?_
                repeat (first | go_big_quiet_skip | (go_big_quiet_want; go_big_quiet_op; first | go_big_quiet_on | (apply Exists.intro; refine ⟨fun _ => ?_, ?_⟩; (focus (first | fail)); go_big_quiet_on)))
                refine wpQuiet_nil ?_
                rintro _ ⟨xq, rfl⟩
                clear hfar1
                clear hfa1
                go_wp2
                go_ret
                exact ⟨⟨_, rfl⟩, keep1 hB (bA.trans ((Far.below xq).mono bA.size))⟩
              · clear c1 c3 HR hpv t1
                have hfar1 := fun x : Far wa => (x.at sB).three
                refine wp_region_far (by kernel_rfl) (by kernel_rfl) ?_
                repeat (first | go_big_quiet_skip | (go_big_quiet_want; go_big_quiet_op; first | go_big_quiet_on | (apply Exists.intro; refine ⟨fun _ => ?_, ?_⟩; (focus (first | fail)); go_big_quiet_on)))
                refine wpQuiet_nil ?_
                rintro _ ⟨xq, rfl⟩
                clear hfar1
                clear hfa1
                go_wp2
                go_roundw
                case rel => exact ⟨k + 1, av2, by omega, by simp, rfl, keep1 hB (bA.trans ((Far.below xq).mono bA.size))⟩
                case measure => simp [intOf]; omega
      · obtain rfl : k = len := by omega
        by_cases h0 : k = 0
        · have h0' : ((k : Int) == 0) = true := by subst h0; rfl
          clear h0 HR
          go_wp2
          go_ret
          exact ⟨⟨_, rfl⟩, hB⟩
        · have h0' : ((k : Int) == 0) = false := beq_eq_false_iff_ne.2 (by omega)
          obtain ⟨g', o', e, hg', d1, d2, d3⟩ := (HR.out.below hB).at 0 (by have := HLN.out; omega)
          subst e
          rw [Nat.zero_mul, Nat.add_zero] at d1 d2 d3
          have k1 : (0 : Int) < k := by omega
          obtain ⟨⟨z1, z2, z3⟩, hz⟩ : ∃ z, ps[0]'(by have := HLN.out; omega) = z := ⟨_, rfl⟩
          rw [hz] at d1 d2 d3
          dsimp only at d1 d2 d3
          clear hz HR
          cases hc : (z2 == 1) with
          | false =>
            go_wp2
            go_ret
            exact ⟨⟨_, rfl⟩, hB⟩
          | true =>
            go_wp2
            go_ret
            exact ⟨⟨_, rfl⟩, hB⟩
end Go.Proofs.YtlbnlmhcpephbaaGreatDoor
