/- What is played: empty bins, alive. -/
import Derived.Test.YtplfiheejecjiaaGreatDoorProg
import Derived.Test.YtplfiheejecjiaaGreatDoorDoc13
import Derived.Test.YtplfiheejecjiaaGreatDoorLoops
namespace Go.Proofs.YtplfiheejecjiaaGreatDoor
open Go.RowKit

theorem pat_tab {n0 : Nat} {W : World} {b u v : Nat} {L : List Nat} (ht : TabOk u v L) (h : TabN n0 W b u v L (L.map (repN u v))) : ∃ PB, PAt W false b (partT L) (repT u v L) PB ∧ ∀ j ∈ PB, n0 ≤ j := by
  obtain ⟨hb, A, c, A2, c2, h1, h2, h3, o1, o2⟩ := h
  rw [List.length_map] at h1
  refine ⟨b :: (blk A ++ blk A2), ⟨u, v, L, ht, rfl, rfl, A, c, A2, c2, h1, h2, h3, rfl⟩, fun j hj => ?_⟩
  simp only [List.mem_cons, List.mem_append] at hj
  rcases hj with rfl | hj | hj
  · exact hb
  · cases A with
    | none => simp [blk] at hj
    | some g => simp only [blk, List.mem_singleton] at hj; subst hj; exact o1 g rfl
  · cases A2 with
    | none => simp [blk] at hj
    | some g => simp only [blk, List.mem_singleton] at hj; subst hj; exact o2 g rfl
theorem bn_within {n0 : Nat} {w2 w3 : World} {b : Nat} {PB S : List Nat} {k s : Bool} {part : Nat → Int} {rep : Int → Int} {most : Int} (hz : n0 ≤ w2.heap.size) (hP : ∀ j ∈ PB, n0 ≤ j) (hW : Within S w2.heap.size w3.heap.size) (h : Bn w3 b (PB ++ S) k part rep s most [] [] 0 0 0) :
    Within (PB ++ S) n0 w3.heap.size := fun j hj => ⟨by
  rcases List.mem_append.1 hj with h1 | h1
  · exact hP j h1
  · exact Nat.le_trans hz (hW j h1).1, h.lt j hj⟩
set_option maxRecDepth 100000 in
set_option maxHeartbeats 2000000 in
theorem empty_any (u v d : Int) (k s : Bool) (part : Nat → Int) (rep stand : Int → Int) (most : Int) (A : Option Addr) (len cap : Nat) (w : World) (hT : TensAt w) (hc : Cs u v d k part rep stand) (hm : 1 ≤ most ∧ most ≤ 4096) :
    Calls Tryz.prog 21 #[.agg #[.int .u64 u, .int .u64 v, .int .i64 d, .int .i64 (sideZ s), .int .i64 most, .slice A len cap]] w fun e w' => (∃ b S, e = .returned (.pointer (some ⟨b, 0, none⟩)) ∧ Within S w.heap.size w'.heap.size ∧ BnV w' b S k part rep s most []) ∧ Below w.heap.size w w' := by
  have HN := Lib.hid fun (PB : List Nat) (k : Bool) (pa : Nat) (part : Nat → Int) (rep : Int → Int) (W : World) (hp : PAt W k pa part rep PB) => bnew_any PB k pa part rep s most W hp hm.1 hm.2
  obtain ⟨z, hz⟩ : ∃ z, sideZ s = z := ⟨_, rfl⟩
  rw [hz] at HN ⊢
  have hba : Below w.heap.size w (w.alloc (.cells #[.int .u64 u, .int .u64 v, .int .i64 d, .int .i64 z, .int .i64 most, .slice A len cap] 27)) := (Below.refl _ _).alloc (Nat.le_refl _) _
  have am : At (w.alloc (.cells #[.int .u64 u, .int .u64 v, .int .i64 d, .int .i64 z, .int .i64 most, .slice A len cap] 27)) w.heap.size #[.int .u64 u, .int .u64 v, .int .i64 d, .int .i64 z, .int .i64 most, .slice A len cap] 27 := At.new' _ _ _ rfl
  have hTa := hT.below hba
  clear hz hT hm
  rcases hc with ⟨rfl, h1, h4, rfl, rfl, _⟩ | ⟨rfl, rfl, un, vn, L, rfl, rfl, ht, rfl, rfl, _⟩
  · have hd0 : decide (0 < d) = true := decide_eq_true (by omega)
    have HS := Lib.hid fun W hW => spnew_any d W hW h1 h4
    clear h1 h4
    go_enter Tryz.func21, Tryz.ntmps21
    go_wp2_with fail
    obtain ⟨W1, hW1⟩ : ∃ W, w.alloc (.cells #[.int .u64 u, .int .u64 v, .int .i64 d, .int .i64 z, .int .i64 most, .slice A len cap] 27) = W := ⟨_, rfl⟩
    obtain ⟨rb, hrb⟩ : ∃ r, w.heap.size = r := ⟨_, rfl⟩
    rw [hW1] at hba am hTa
    rw [hrb] at am
    simp only [hW1, hrb]
    clear hW1 hrb
    refine (HS.out W1 hTa).mono ?_
    rintro e w2 ⟨⟨pa, rfl, hpa, hsp⟩, hb⟩
    have HB2 := Lib.hid (keep1 hba hb)
    have HP : Hid (PAt w2 true pa (partD d) (repD d) [pa]) := ⟨d, hsp, rfl, rfl, rfl⟩
    have HPG : Hid (w.heap.size ≤ pa) := by have := hba.size; show _ ≤ _; omega
    have a2 := am.below hb
    have f2 := a2.six
    have l2 := a2.lt
    clear hba hb am hTa hsp hpa a2 HS hd0
    go_wp2_with fail
    refine (HN.out [pa] true pa _ _ w2 HP.out).mono ?_
    rintro e w3 ⟨⟨b, S, rfl, hW, hN⟩, hb⟩
    have HF : Hid ((∃ b' S', Ending.returned (.pointer (some ⟨b, 0, none⟩)) = .returned (.pointer (some ⟨b', 0, none⟩)) ∧ Within S' w.heap.size w3.heap.size ∧ BnV w3 b' S' true (partD d) (repD d) s most []) ∧ Below w.heap.size w w3) :=
      ⟨⟨b, _, rfl, bn_within HB2.out.size (fun j hj => by simp only [List.mem_singleton] at hj; subst hj; exact HPG.out) hW hN, BnV.new hN⟩, keep1 HB2.out hb⟩
    clear hW hN hb HB2 HP HPG HN f2 l2
    go_wp2
    go_ret
    exact HF.out
  · have HS := Lib.hid fun W => cnew_own un vn W ht.u0 ht.uv ht.v1
    have HT := Lib.hid ht
    clear ht hTa
    go_enter Tryz.func21, Tryz.ntmps21
    go_wp2_with fail
    obtain ⟨W1, hW1⟩ : ∃ W, w.alloc (.cells #[.int .u64 un, .int .u64 vn, .int .i64 0, .int .i64 z, .int .i64 most, .slice A len cap] 27) = W := ⟨_, rfl⟩
    obtain ⟨rb, hrb⟩ : ∃ r, w.heap.size = r := ⟨_, rfl⟩
    rw [hW1] at hba am
    rw [hrb] at am
    simp only [hW1, hrb]
    clear hW1 hrb
    refine (HS.out W1).mono ?_
    rintro e w2 ⟨hR, hb⟩
    unfold NewN at hR
    rw [HT.out.h] at hR
    obtain ⟨pa, rfl, hTN⟩ := hR
    obtain ⟨PB, hP, hPG⟩ := pat_tab HT.out hTN
    have HB2 := Lib.hid (keep1 hba hb)
    have HP := Lib.hid hP
    have HPG : Hid (∀ j ∈ PB, w.heap.size ≤ j) := fun j hj => Nat.le_trans hba.size (hPG j hj)
    have a2 := am.below hb
    have f2 := a2.six
    have l2 := a2.lt
    clear hba hb am hTN hP hPG a2 HS
    go_wp2_with fail
    refine (HN.out PB false pa _ _ w2 HP.out).mono ?_
    rintro e w3 ⟨⟨b, S, rfl, hW, hN⟩, hb⟩
    have HF : Hid ((∃ b' S', Ending.returned (.pointer (some ⟨b, 0, none⟩)) = .returned (.pointer (some ⟨b', 0, none⟩)) ∧ Within S' w.heap.size w3.heap.size ∧ BnV w3 b' S' false (partT L) (repT un vn L) s most []) ∧ Below w.heap.size w w3) :=
      ⟨⟨b, _, rfl, bn_within HB2.out.size HPG.out hW hN, BnV.new hN⟩, keep1 HB2.out hb⟩
    clear hW hN hb HB2 HP HPG HN f2 l2 HT
    go_wp2
    go_ret
    exact HF.out
theorem kinB {B : Nat} {w wr w' : World} {S : List Nat} {b : Nat} {k s : Bool} {part : Nat → Int} {rep : Int → Int} {most : Int} {l l' : List (Int × Int)} (h : Two B w wr S [] (BnV wr b S k part rep s most l) True) (hp : BpvR b S k part rep s most l' wr w') : ∃ S', Two B w w' S' [] (BnV w' b S' k part rep s most l') True := by
  obtain ⟨S', hg, hX, hF⟩ := hp
  exact ⟨S', h.stepX hg hX hX.lt hF trivial⟩
theorem two_new {n0 : Nat} {w w3 : World} {S : List Nat} {X : Prop} (hW : Within S n0 w3.heap.size) (hX : X) (hB : Below n0 w w3) (hz : n0 ≤ w3.heap.size) : Two n0 w w3 S [] X True :=
  ⟨hX, trivial, hW, fun k hk => by simp at hk, fun k _ => by simp, hB, hz⟩
set_option maxRecDepth 100000 in
set_option maxHeartbeats 2000000 in
theorem alive_any (w : World) (hT : TensAt w) : Calls Tryz.prog 8 #[] w fun e w' => e = .returned (.bool true) ∧ Below w.heap.size w w' := by
  have HS := Lib.hid (spnew_any 1 w hT (by omega) (by omega))
  have HP1 : Hid (PS (partD 1) (repD 1) (standV (repM (gOf 1)))) := Cs.ps (u := 0) (v := 0) (d := 1) (k := true) (.inl ⟨rfl, by omega, by omega, rfl, rfl, rfl⟩)
  clear hT
  go_enter Tryz.func8, Tryz.ntmps8
  go_wp2_with fail
  refine HS.out.mono ?_
  rintro e w1 ⟨⟨pa, rfl, hpa, hsp⟩, hb1⟩
  have HP : Hid (PAt w1 true pa (partD 1) (repD 1) [pa]) := ⟨1, hsp, rfl, rfl, rfl⟩
  have HPG : Hid (w.heap.size ≤ pa) := by show _ ≤ _; omega
  have HB1 := Lib.hid hb1
  clear hb1 hsp hpa HS
  go_wp2_with fail
  refine (bnew_any [pa] true pa _ _ true 100 w1 HP.out (by omega) (by omega)).mono ?_
  rintro e w2 ⟨⟨b, S, rfl, hW, hN⟩, hb⟩
  have T1 : Hid (Two w.heap.size w w2 ([pa] ++ S) [] (BnV w2 b ([pa] ++ S) true (partD 1) (repD 1) true 100 []) True) :=
    two_new (bn_within HB1.out.size (fun j hj => by simp only [List.mem_singleton] at hj; subst hj; exact HPG.out) hW hN) (BnV.new hN) (keep1 HB1.out hb) (keep1 HB1.out hb).size
  obtain ⟨S1, hS1⟩ : ∃ S1, [pa] ++ S = S1 := ⟨_, rfl⟩
  rw [hS1] at T1
  clear hW hN hb HB1 HPG HP hS1
  go_wp2_with fail
  refine (badd_v b S1 true _ _ true 100 100 1 [] w2 T1.out.x VOk.nil (by omega) (by omega) (by rw [sumP_nil]; omega)).mono ?_
  rintro e w3 ⟨rfl, hp⟩
  obtain ⟨S2, T2'⟩ := kinB T1.out hp
  have T2 := Lib.hid T2'
  have HV : Hid (VOk ([] ++ [(100, 1)])) := VOk.nil.snoc (by omega) (by omega) (by rw [sumP_nil]; omega)
  clear hp T1 T2'
  go_wp2_with fail
  refine (badd_v b S2 true _ _ true 100 (-100) 1 _ w3 T2.out.x HV.out (by omega) (by omega) (by decide)).mono ?_
  rintro e w4 ⟨rfl, hp⟩
  obtain ⟨S3, T3'⟩ := kinB T2.out hp
  have T3 := Lib.hid T3'
  have HV2 : Hid (VOk (([] ++ [(100, 1)]) ++ [(-100, 1)])) := HV.out.snoc (by omega) (by omega) (by decide)
  clear hp T2 T3' HV
  go_wp2_with fail
  refine (bfind_v b S3 true _ _ (standV (repM (gOf 1))) true 100 1 _ w4 T3.out.x HP1.out HV2.out (by omega)).mono ?_
  rintro e w5 ⟨rfl, hb⟩
  have HFB := Lib.hid (keep1 T3.out.below hb)
  rw [show docFind13 (partD 1) (standV (repM (gOf 1))) true 100 (([] ++ [(100, 1)]) ++ [(-100, 1)]) 1 = some (-101) by decide +kernel, show optI (some (-101)) = .tuple #[.int .i64 (-101), .bool true] from rfl]
  clear hb T3 HV2 HP1
  go_wp2
  go_ret
  exact ⟨rfl, HFB.out⟩
end Go.Proofs.YtplfiheejecjiaaGreatDoor
