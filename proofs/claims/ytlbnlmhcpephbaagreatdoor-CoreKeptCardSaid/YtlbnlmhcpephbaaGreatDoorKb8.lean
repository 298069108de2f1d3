/- Texts of this claim, joined, indents halved: Ls1, Ls2, Share, Compare, Less, Places, Ls3, Ls4, Ref15. -/
import Derived.Test.YtlbnlmhcpephbaaGreatDoorProg
import Derived.ScopeJumps
import Derived.Test.YtlbnlmhcpephbaaGreatDoorKb7
namespace Go.Proofs.YtlbnlmhcpephbaaGreatDoor
open Go.RowKit
theorem At.seven {w : World} {b : Nat} {T : TypeId} {v0 v1 v2 v3 v4 v5 v6 : Value} (h : At w b #[v0, v1, v2, v3, v4, v5, v6] T) : (w.cell? ⟨b, 0, none⟩ = some v0 ∧ w.cell? ⟨b, 1, none⟩ = some v1 ∧ w.cell? ⟨b, 2, none⟩ = some v2 ∧ w.cell? ⟨b, 3, none⟩ = some v3 ∧ w.cell? ⟨b, 4, none⟩ = some v4 ∧ w.cell? ⟨b, 5, none⟩ = some v5 ∧ w.cell? ⟨b, 6, none⟩ = some v6) ∧
  w.frozen? ⟨b, 0, none⟩ = false ∧ w.frozen? ⟨b, 1, none⟩ = false ∧ w.frozen? ⟨b, 2, none⟩ = false ∧ w.frozen? ⟨b, 3, none⟩ = false ∧ w.frozen? ⟨b, 4, none⟩ = false ∧ w.frozen? ⟨b, 5, none⟩ = false ∧ w.frozen? ⟨b, 6, none⟩ = false :=
 ⟨⟨h.cell rfl, h.cell rfl, h.cell rfl, h.cell rfl, h.cell rfl, h.cell rfl, h.cell rfl⟩, h.frozen 0, h.frozen 1, h.frozen 2, h.frozen 3, h.frozen 4, h.frozen 5, h.frozen 6⟩
structure LsB (w : World) (b bb : Nat) (B : List Nat) (part : Nat → Int) (rep : Int → Int) (u v : Int) (s : Bool) (most : Int) (l : List (Int × Int)) (lo hi : Int) : Prop where
 at' : At w b #[.pointer (some ⟨bb, 0, none⟩), .int .u64 u, .int .u64 v, .int .i64 (sideZ s), .int .i64 most, .int .i64 lo, .int .i64 hi] 154
 bn : BnV w bb B false part rep s most l
 nb : b ∉ B
def Ls (w : World) (b : Nat) (S : List Nat) (part : Nat → Int) (rep : Int → Int) (u v : Int) (s : Bool) (most : Int) (l : List (Int × Int)) (lo hi : Int) : Prop := ∃ bb B, S = b :: B ∧ LsB w b bb B part rep u v s most l lo hi
def LsV (w : World) (b : Nat) (S : List Nat) (part : Nat → Int) (rep : Int → Int) (u v : Int) (s : Bool) (most : Int) (l : List (Int × Int)) : Prop := Ls w b S part rep u v s most l (eLow l) (eHigh l)
section
variable {w w' : World} {b bb : Nat} {B S T : List Nat} {part : Nat → Int} {rep : Int → Int} {u v : Int} {s : Bool} {most lo hi lo' hi' : Int} {l : List (Int × Int)}
theorem LsB.frame (h : LsB w b bb B part rep u v s most l lo hi) (hf : Frame T w w') (hb : b ∉ T) (hn : Apart B T) : LsB w' b bb B part rep u v s most l lo hi := ⟨hf.at h.at' hb, h.bn.frame hf hn, h.nb⟩
theorem LsB.below (h : LsB w b bb B part rep u v s most l lo hi) (hb : Below w.heap.size w w') : LsB w' b bb B part rep u v s most l lo hi := h.frame (T := []) (Frame.of_below hb) (by simp) (fun _ _ => by simp)
theorem Ls.frame (h : Ls w b S part rep u v s most l lo hi) (hf : Frame T w w') (hn : Apart S T) : Ls w' b S part rep u v s most l lo hi := by
 obtain ⟨bb, B, rfl, h⟩ := h
 exact ⟨bb, B, rfl, h.frame hf (hn b (by simp)) fun j hj => hn j (by simp [hj])⟩
theorem Ls.below (h : Ls w b S part rep u v s most l lo hi) (hb : Below w.heap.size w w') : Ls w' b S part rep u v s most l lo hi := h.frame (T := []) (Frame.of_below hb) (fun _ _ => by simp)
theorem Ls.lt (h : Ls w b S part rep u v s most l lo hi) : ∀ j ∈ S, j < w.heap.size := by
 obtain ⟨bb, B, rfl, h⟩ := h
 intro j hj
 rcases List.mem_cons.1 hj with rfl | hj
 ·exact h.at'.lt
 ·exact h.bn.lt j hj
theorem LsV.below (h : LsV w b S part rep u v s most l) (hb : Below w.heap.size w w') : LsV w' b S part rep u v s most l := Ls.below h hb
theorem LsV.m14 (h : LsV w b S part rep u v s most l) : 1 ≤ most ∧ most ≤ 4096 := by
 obtain ⟨bb, B, rfl, h⟩ := h
 exact h.bn.m14
theorem LsB.set (h : LsB w b bb B part rep u v s most l lo hi) (i : Nat) (x : Value)
  (h1 : At (w.setCell ⟨b, i, none⟩ x) b #[.pointer (some ⟨bb, 0, none⟩), .int .u64 u, .int .u64 v, .int .i64 (sideZ s), .int .i64 most, .int .i64 lo', .int .i64 hi'] 154) : LsB (w.setCell ⟨b, i, none⟩ x) b bb B part rep u v s most l lo' hi' :=
 ⟨h1, h.bn.frame (Frame.set [b] w b i x (by simp)) (fun j hj hn => h.nb (by simp at hn; rwa [← hn])), h.nb⟩
end
theorem ls_new {w W : World} {b bb : Nat} {B : List Nat} {part : Nat → Int} {rep : Int → Int} {u v : Int} {s : Bool} {most : Int} (hb : Below w.heap.size w W) (hB : Within B w.heap.size W.heap.size) (hN : BnV W bb B false part rep s most []) :
  (∃ b S, Ending.returned (.tuple #[.pointer (some ⟨W.heap.size, 0, none⟩), .int .i64 0]) = .returned (.tuple #[.pointer (some ⟨b, 0, none⟩), .int .i64 0]) ∧ Within S w.heap.size (W.alloc (.cells #[.pointer (some ⟨bb, 0, none⟩), .int .u64 u, .int .u64 v, .int .i64 (sideZ s), .int .i64 most, .int .i64 0, .int .i64 0] 154)).heap.size ∧
   LsV (W.alloc (.cells #[.pointer (some ⟨bb, 0, none⟩), .int .u64 u, .int .u64 v, .int .i64 (sideZ s), .int .i64 most, .int .i64 0, .int .i64 0] 154)) b S part rep u v s most []) ∧
  Below w.heap.size w (W.alloc (.cells #[.pointer (some ⟨bb, 0, none⟩), .int .u64 u, .int .u64 v, .int .i64 (sideZ s), .int .i64 most, .int .i64 0, .int .i64 0] 154)) := by
 have ha := At.new W #[.pointer (some ⟨bb, 0, none⟩), .int .u64 u, .int .u64 v, .int .i64 (sideZ s), .int .i64 most, .int .i64 0, .int .i64 0] 154
 have hba : Below W.heap.size W (W.alloc (.cells #[.pointer (some ⟨bb, 0, none⟩), .int .u64 u, .int .u64 v, .int .i64 (sideZ s), .int .i64 most, .int .i64 0, .int .i64 0] 154)) := (Below.refl _ _).alloc (Nat.le_refl _) _
 generalize W.alloc (.cells #[.pointer (some ⟨bb, 0, none⟩), .int .u64 u, .int .u64 v, .int .i64 (sideZ s), .int .i64 most, .int .i64 0, .int .i64 0] 154) = W2 at ha hba ⊢
 have hz := hb.size
 have hz2 := hba.size
 have hl := ha.lt
 refine ⟨⟨W.heap.size, W.heap.size :: B, rfl, fun j hj => ?_, bb, B, rfl, ha, hN.below hba, fun hm => ?_⟩, keep1 hb hba⟩
 ·rcases List.mem_cons.1 hj with rfl | hj
  ·omega
  ·have := hB j hj; omega
 ·have := (hB _ hm).2; omega
set_option maxRecDepth 100000 in
set_option maxHeartbeats 2000000 in
theorem lsnew_yes (u v : Int) (part : Nat → Int) (rep stand : Int → Int) (s : Bool) (most : Int) (w : World) (hc : Cs u v 0 false part rep stand) (hm : 1 ≤ most ∧ most ≤ 4096) :
  Calls Tryz.prog 42 #[.agg #[.int .u64 u, .int .u64 v, .int .i64 (sideZ s), .int .i64 most]] w fun e w' => (∃ b S, e = .returned (.tuple #[.pointer (some ⟨b, 0, none⟩), .int .i64 0]) ∧ Within S w.heap.size w'.heap.size ∧ LsV w' b S part rep u v s most []) ∧ Below w.heap.size w w' := by
 have HN := Lib.hid fun (PB : List Nat) (pa : Nat) (part : Nat → Int) (rep : Int → Int) (W : World) (hp : PAt W false pa part rep PB) => bnew_any PB false pa part rep s most W hp hm.1 hm.2
 have HLN := Lib.hid fun (u v : Int) (bb : Nat) (B : List Nat) (part : Nat → Int) (rep : Int → Int) (W : World) (hb : Below w.heap.size w W) (hB : Within B w.heap.size W.heap.size) (hN : BnV W bb B false part rep s most []) => ls_new (u := u) (v := v) (b := 0) hb hB hN
 obtain ⟨z, hz⟩ : ∃ z, sideZ s = z := ⟨_, rfl⟩
 rw [hz] at HN HLN ⊢
 have hba : Below w.heap.size w (w.alloc (.cells #[.int .u64 u, .int .u64 v, .int .i64 z, .int .i64 most] 103)) := (Below.refl _ _).alloc (Nat.le_refl _) _
 have am : At (w.alloc (.cells #[.int .u64 u, .int .u64 v, .int .i64 z, .int .i64 most] 103)) w.heap.size #[.int .u64 u, .int .u64 v, .int .i64 z, .int .i64 most] 103 := At.new' _ _ _ rfl
 clear hz hm
 rcases hc with ⟨hk, _⟩ | ⟨_, _, un, vn, L, rfl, rfl, ht, rfl, rfl, _⟩
 ·cases hk
 have HS := Lib.hid fun W => cnew_own un vn W ht.u0 ht.uv ht.v1
 have HT := Lib.hid ht
 clear ht
 go_enter Tryz.func42, Tryz.ntmps42
 go_wp2_with fail
 obtain ⟨W1, hW1⟩ : ∃ W, w.alloc (.cells #[.int .u64 un, .int .u64 vn, .int .i64 z, .int .i64 most] 103) = W := ⟨_, rfl⟩
 obtain ⟨rb, hrb⟩ : ∃ r, w.heap.size = r := ⟨_, rfl⟩
 rw [hW1] at hba am
 rw [hrb] at am
 simp only [hW1, hrb]
 clear hW1 hrb
 refine (HS.out W1).mono ?_
 rintro e w2 ⟨hR, hb⟩
 unfold NewN at hR
 rw [HT.out.h] at hR
 obtain ⟨pa, rfl, hTN⟩ := hR
 obtain ⟨PB, hP, hPG⟩ := pat_tab HT.out hTN
 have HB2 := Lib.hid (keep1 hba hb)
 have HP := Lib.hid hP
 have HPG : Hid (∀ j ∈ PB, w.heap.size ≤ j) := fun j hj => Nat.le_trans hba.size (hPG j hj)
 have a2 := am.below hb
 have HA2 := Lib.hid a2
 have f2 := a2.four
 have l2 := a2.lt
 clear hba hb am hTN hP hPG a2 HS
 go_wp2_with fail
 refine (HN.out PB pa _ _ w2 HP.out).mono ?_
 rintro e w3 ⟨⟨bb, S, rfl, hW, hN⟩, hb⟩
 have HF := Lib.hid (HLN.out un vn bb _ _ _ w3 (keep1 HB2.out hb) (bn_within HB2.out.size HPG.out hW hN) (BnV.new hN))
 have a3 := HA2.out.below hb
 have f3 := a3.four
 have l3 := a3.lt
 clear hW hN hb HB2 HP HPG HN f2 l2 HT HLN a3 HA2
 go_wp2
 go_ret2
 exact HF.out
set_option maxRecDepth 100000 in
set_option maxHeartbeats 2000000 in
theorem lsnew_side (u v : Int) (part : Nat → Int) (rep stand : Int → Int) (z most : Int) (w : World) (hc : Cs u v 0 false part rep stand) (hm : ¬ ((z = 0 ∨ z = 1) ∧ 1 ≤ most ∧ most ≤ 4096)) :
  Calls Tryz.prog 42 #[.agg #[.int .u64 u, .int .u64 v, .int .i64 z, .int .i64 most]] w fun e w' => e = .returned (.tuple #[.pointer none, .int .i64 1]) ∧ Below w.heap.size w w' := by
 have HN : Hid (∀ (pa : Nat) W, Calls Tryz.prog 57 #[.iface (pKnd false).T (.pointer (some ⟨pa, 0, none⟩)), .int .i64 z, .int .i64 most] W fun e w' => e = .returned (.tuple #[.pointer none, .int .i64 1]) ∧ W = w') := fun pa W => by
  by_cases hs : z = 0 ∨ z = 1
  ·obtain ⟨s, rfl⟩ : ∃ s, sideZ s = z := by
    rcases hs with h | h
    ·exact ⟨true, h.symm⟩
    ·exact ⟨false, h.symm⟩
   exact bnew_bad false pa s most W (by omega)
  ·exact bnew_side false pa z most W (by omega)
 have hba : Below w.heap.size w (w.alloc (.cells #[.int .u64 u, .int .u64 v, .int .i64 z, .int .i64 most] 103)) := (Below.refl _ _).alloc (Nat.le_refl _) _
 have am : At (w.alloc (.cells #[.int .u64 u, .int .u64 v, .int .i64 z, .int .i64 most] 103)) w.heap.size #[.int .u64 u, .int .u64 v, .int .i64 z, .int .i64 most] 103 := At.new' _ _ _ rfl
 clear hm
 rcases hc with ⟨hk, _⟩ | ⟨_, _, un, vn, L, rfl, rfl, ht, rfl, rfl, _⟩
 ·cases hk
 have HS := Lib.hid fun W => cnew_own un vn W ht.u0 ht.uv ht.v1
 have HT := Lib.hid ht
 clear ht
 go_enter Tryz.func42, Tryz.ntmps42
 go_wp2_with fail
 obtain ⟨W1, hW1⟩ : ∃ W, w.alloc (.cells #[.int .u64 un, .int .u64 vn, .int .i64 z, .int .i64 most] 103) = W := ⟨_, rfl⟩
 obtain ⟨rb, hrb⟩ : ∃ r, w.heap.size = r := ⟨_, rfl⟩
 rw [hW1] at hba am
 rw [hrb] at am
 simp only [hW1, hrb]
 clear hW1 hrb
 refine (HS.out W1).mono ?_
 rintro e w2 ⟨hR, hb⟩
 unfold NewN at hR
 rw [HT.out.h] at hR
 obtain ⟨pa, rfl, hTN⟩ := hR
 have HB2 := Lib.hid (keep1 hba hb)
 have a2 := am.below hb
 have f2 := a2.four
 have l2 := a2.lt
 clear hba hb am hTN a2 HS
 go_wp2_with fail
 refine (HN.out pa w2).mono ?_
 rintro e w3 ⟨rfl, rfl⟩
 clear HN f2 l2 HT
 go_wp2
 go_ret2
 exact ⟨rfl, HB2.out⟩
set_option maxRecDepth 100000 in
set_option maxHeartbeats 2000000 in
theorem lsnew_no (u v z most : Int) (w : World) (h1 : 0 ≤ u) (h2 : u < 18446744073709551616) (h3 : 0 ≤ v) (h4 : v < 18446744073709551616) (hc : CsNo u v 0) :
  Calls Tryz.prog 42 #[.agg #[.int .u64 u, .int .u64 v, .int .i64 z, .int .i64 most]] w fun e w' => (∃ f, e = .returned (.tuple #[.pointer none, .int .i64 f]) ∧ (f = 1 ∨ f = 6) ∧ (goodC u v = false → f = 1)) ∧ Below w.heap.size w w' := by
 have HC : Hid (∃ f : Int, ((f = 1 ∨ f = 6) ∧ (goodC u v = false → f = 1)) ∧ ∀ W, Calls Tryz.prog 56 #[.agg #[.int .u64 u, .int .u64 v]] W fun e w' => e = .returned (.tuple #[.pointer none, .int .i64 f]) ∧ Below W.heap.size W w') := by
  rcases hc with ⟨_, hg | ⟨un, vn, rfl, rfl, g1, g2, g3, g4⟩⟩
  ·exact ⟨1, ⟨.inl rfl, fun _ => rfl⟩, fun W => cnew_bad u v W h1 h2 h3 h4 hg⟩
  ·refine ⟨6, ⟨.inr rfl, fun hg => ?_⟩, fun W => (cnew_own un vn W g1 g2 g3).mono fun e w' h => ⟨?_, h.2⟩⟩
   ·rw [goodC_iff.2 ⟨by omega, by omega, by omega⟩] at hg
    cases hg
   ·have h0 := h.1
    unfold NewN at h0
    rw [g4] at h0
    exact h0
 obtain ⟨f, hf, hN⟩ := HC.out
 have HF := Lib.hid hf
 have HN := Lib.hid hN
 have hf0 : (f != 0) = true := bne_iff_ne.2 (by omega)
 have hf1 : (f == 0) = false := beq_eq_false_iff_ne.2 (by omega)
 have hba : Below w.heap.size w (w.alloc (.cells #[.int .u64 u, .int .u64 v, .int .i64 z, .int .i64 most] 103)) := (Below.refl _ _).alloc (Nat.le_refl _) _
 have am : At (w.alloc (.cells #[.int .u64 u, .int .u64 v, .int .i64 z, .int .i64 most] 103)) w.heap.size #[.int .u64 u, .int .u64 v, .int .i64 z, .int .i64 most] 103 := At.new' _ _ _ rfl
 clear h1 h2 h3 h4 hc hf hN HC
 go_enter Tryz.func42, Tryz.ntmps42
 go_wp2_with fail
 refine (HN.out _).mono ?_
 rintro e w2 ⟨rfl, hb⟩
 have HB2 := Lib.hid (keep1 hba hb)
 clear hba am hb HN
 go_wp2
 go_ret2
 exact ⟨⟨f, rfl, HF.out⟩, HB2.out⟩
def LsNew (u v z most : Int) (w : World) (e : Ending) (w' : World) : Prop :=
 (∃ part rep stand s b S, Cs u v 0 false part rep stand ∧ z = sideZ s ∧ (1 ≤ most ∧ most ≤ 4096) ∧ e = .returned (.tuple #[.pointer (some ⟨b, 0, none⟩), .int .i64 0]) ∧ Within S w.heap.size w'.heap.size ∧ LsV w' b S part rep u v s most []) ∨
 (∃ f : Int, e = .returned (.tuple #[.pointer none, .int .i64 f]) ∧ (f = 1 ∨ f = 6) ∧ (goodC u v = false → f = 1))
theorem lsnew_any (u v z most : Int) (w : World) (h1 : 0 ≤ u) (h2 : u < 18446744073709551616) (h3 : 0 ≤ v) (h4 : v < 18446744073709551616) :
  Calls Tryz.prog 42 #[.agg #[.int .u64 u, .int .u64 v, .int .i64 z, .int .i64 most]] w fun e w' => LsNew u v z most w e w' ∧ Below w.heap.size w w' := by
 rcases cs_cases (u := u) (v := v) (d := 0) h1 h3 (by omega) (by omega) with ⟨k, part, rep, stand, hc⟩ | hc
 ·have hk : k = false := by
   rcases hc with ⟨_, h, _⟩ | ⟨h, _⟩
   ·omega
   ·exact h
  subst hk
  by_cases hm : (z = 0 ∨ z = 1) ∧ 1 ≤ most ∧ most ≤ 4096
  ·obtain ⟨s, rfl⟩ : ∃ s, sideZ s = z := by
    rcases hm.1 with h | h
    ·exact ⟨true, h.symm⟩
    ·exact ⟨false, h.symm⟩
   refine (lsnew_yes u v part rep stand s most w hc hm.2).mono ?_
   rintro e w' ⟨⟨b, S, he, hW, hN⟩, hb⟩
   exact ⟨.inl ⟨part, rep, stand, s, b, S, hc, rfl, hm.2, he, hW, hN⟩, hb⟩
  ·refine (lsnew_side u v part rep stand z most w hc hm).mono ?_
   rintro e w' ⟨he, hb⟩
   exact ⟨.inr ⟨1, he, .inl rfl, fun _ => rfl⟩, hb⟩
 ·refine (lsnew_no u v z most w h1 h2 h3 h4 hc).mono ?_
  rintro e w' ⟨⟨f, he, hf⟩, hb⟩
  exact ⟨.inr ⟨f, he, hf⟩, hb⟩
theorem lsbins_at (b : Nat) (x0 x1 x2 x3 x4 x5 x6 : Value) (w : World) (h : At w b #[x0, x1, x2, x3, x4, x5, x6] 154) : Calls Tryz.prog 85 #[.pointer (some ⟨b, 0, none⟩)] w fun e w' => e = .returned x0 ∧ w = w' := by
 have f1 := h.seven
 clear h
 go_enter Tryz.func85, Tryz.ntmps85
 go_wp2
 go_ret
 exact ⟨rfl, rfl⟩
set_option maxRecDepth 100000 in
theorem lsends_k (b : Nat) (S : List Nat) (part : Nat → Int) (rep : Int → Int) (u v : Int) (s : Bool) (most : Int) (l : List (Int × Int)) (lo hi : Int) (w : World) (h : Ls w b S part rep u v s most l lo hi) (hv : VOk l) :
  Calls Tryz.prog 180 #[.pointer (some ⟨b, 0, none⟩)] w fun e w' => e = .returned (.tuple #[.int .i64 (if sumP l = 0 then 0 else lo), .int .i64 (if sumP l = 0 then 0 else hi), .bool (decide (sumP l ≠ 0))]) ∧ Below w.heap.size w w' := by
 obtain ⟨bb, B, rfl, h⟩ := h
 have HT := Lib.hid (btot_v bb B false part rep s most l w h.bn hv)
 have s1 := h.at'
 have f1 := s1.seven
 have l1 := s1.lt
 have HA := Lib.hid h.at'
 obtain ⟨t, ht⟩ : ∃ t, sumP l = t := ⟨_, rfl⟩
 rw [ht] at HT ⊢
 clear h ht s1
 by_cases h0 : t = 0
 ·rw [if_pos h0, if_pos h0, decide_eq_false (fun h => h h0)]
  rw [h0] at HT
  clear h0
  go_enter Tryz.func180, Tryz.ntmps180
  go_wp2_with fail
  refine HT.out.mono ?_
  rintro e w1 ⟨rfl, hb⟩
  have HB := Lib.hid hb
  clear hb HT f1 l1
  go_wp2
  go_ret3
  exact ⟨rfl, HB.out⟩
 ·rw [if_neg h0, if_neg h0, decide_eq_true h0]
  have hd : (t == 0) = false := beq_eq_false_iff_ne.2 h0
  clear h0
  go_enter Tryz.func180, Tryz.ntmps180
  go_wp2_with fail
  refine HT.out.mono ?_
  rintro e w1 ⟨rfl, hb⟩
  have HB := Lib.hid hb
  have s2 := HA.out.below hb
  clear hb HT f1 l1 HA
  go_wp2
  have hfar1 := fun x : Far w1 => (x.at s2).seven
  refine wp_region_far (by kernel_rfl) (by kernel_rfl) ?_
  repeat (first | go_big_quiet_skip | (go_big_quiet_want; go_big_quiet_op; first | go_big_quiet_on | (apply Exists.intro; refine ⟨fun _ => ?_, ?_⟩; (focus (first | (fail))); go_big_quiet_on)))
  refine wpQuiet_nil ?_
  rintro _ ⟨xq, rfl⟩
  clear hfar1
  have hb2 := xq.below
  clear s2 hd
  go_wp2
  go_ret3
  exact ⟨rfl, keep1 HB.out hb2⟩
theorem lsends_v (b : Nat) (S : List Nat) (part : Nat → Int) (rep : Int → Int) (u v : Int) (s : Bool) (most : Int) (l : List (Int × Int)) (w : World) (h : LsV w b S part rep u v s most l) (hv : VOk l) :
  Calls Tryz.prog 180 #[.pointer (some ⟨b, 0, none⟩)] w fun e w' => e = .returned (.tuple #[.int .i64 (eLow l), .int .i64 (eHigh l), .bool (eIs l)]) ∧ Below w.heap.size w w' := by
 have k := lsends_k b S part rep u v s most l _ _ w h hv
 by_cases h0 : sumP l = 0
 ·rw [if_pos h0, if_pos h0, decide_eq_false (fun h => h h0)] at k
  have e := hv.empty.1 h0
  subst e
  exact k
 ·rw [if_neg h0, if_neg h0, decide_eq_true h0] at k
  have : eIs l = true := by
   unfold eIs
   exact decide_eq_true fun e => h0 (by rw [List.eq_nil_of_length_eq_zero e]; rfl)
  rw [this]
  exact k
end Go.Proofs.YtlbnlmhcpephbaaGreatDoor

namespace Go.Proofs.YtlbnlmhcpephbaaGreatDoor
open Go.RowKit
def MostW (b : Nat) (most : Int) (W : World) : Prop := W.cell? ⟨b, 6, none⟩ = some (.int .i64 most)
theorem MostW.at {b : Nat} {most : Int} {W : World} (h : MostW b most W) : W.cell? ⟨b, 6, none⟩ = some (.int .i64 most) := h
set_option maxRecDepth 100000 in
set_option maxHeartbeats 2000000 in
theorem lsend_none (b bb : Nat) (B : List Nat) (part : Nat → Int) (rep : Int → Int) (u v : Int) (s : Bool) (pm : Int) (l : List (Int × Int)) (least most lo hi : Int) (w : World) (h : LsB w b bb B part rep u v s pm l least most) (hv : VOk l) (h0 : sumP l = 0) :
  Calls Tryz.prog 184 #[.pointer (some ⟨b, 0, none⟩), .int .i64 lo, .int .i64 hi] w fun e w' => e = .returned (.tuple #[]) ∧ LsB w' b bb B part rep u v s pm l lo hi ∧ Frame [b] w w' := by
 have H := Lib.hid h
 have HT := Lib.hid (btot_v bb B false part rep s pm l w h.bn hv)
 rw [h0] at HT
 have f0 := h.at'.seven
 have l0 := h.at'.lt
 clear h hv h0
 go_enter Tryz.func184, Tryz.ntmps184
 go_wp2_with fail
 refine HT.out.mono ?_
 rintro e w1 ⟨rfl, hb⟩
 replace H := Lib.hid (H.out.below hb)
 have hF := Lib.hid (Frame.of_below (S := [b]) hb)
 have s1 := H.out.at'
 have f1 := s1.seven
 have l1 := s1.lt
 clear HT hb f0 l0
 have H2 := Lib.hid (H.out.set (lo' := lo) (hi' := most) 5 (.int .i64 lo) (s1.set_any 5 _ rfl))
 have H3 := Lib.hid (H2.out.set (lo' := lo) (hi' := hi) 6 (.int .i64 hi) (H2.out.at'.set_any 6 _ rfl))
 have HF3 := Lib.hid ((hF.out.setc (b := b) (.inl (by simp)) 5 (.int .i64 lo)).setc (b := b) (.inl (by simp)) 6 (.int .i64 hi))
 go_wp2
 exact bodyPost_ret (results_none rfl _ _ _) rfl ⟨rfl, H3.out, HF3.out⟩
set_option maxRecDepth 100000 in
set_option maxHeartbeats 2000000 in
theorem lsend_more (b bb : Nat) (B : List Nat) (part : Nat → Int) (rep : Int → Int) (u v : Int) (s : Bool) (pm : Int) (l : List (Int × Int)) (least most lo hi : Int) (w : World) (h : LsB w b bb B part rep u v s pm l least most) (hv : VOk l) (h0 : sumP l ≠ 0) :
  Calls Tryz.prog 184 #[.pointer (some ⟨b, 0, none⟩), .int .i64 lo, .int .i64 hi] w fun e w' => e = .returned (.tuple #[]) ∧ LsB w' b bb B part rep u v s pm l (min least lo) (max most hi) ∧ Frame [b] w w' := by
 have H := Lib.hid h
 have HT := Lib.hid (btot_v bb B false part rep s pm l w h.bn hv)
 have f0 := h.at'.seven
 have l0 := h.at'.lt
 have hn : (sumP l == 0) = false := beq_eq_false_iff_ne.2 h0
 obtain ⟨t, htt⟩ : ∃ t, sumP l = t := ⟨_, rfl⟩
 rw [htt] at HT hn
 clear h hv h0 htt
 go_enter Tryz.func184, Tryz.ntmps184
 go_wp2_with fail
 refine HT.out.mono ?_
 rintro e w1 ⟨rfl, hb⟩
 replace H := Lib.hid (H.out.below hb)
 have hF := Lib.hid (Frame.of_below (S := [b]) hb)
 clear HT hb f0 l0
 go_upto_region 2 with fail
 obtain ⟨W, hW⟩ : ∃ W, w1.drew = W := ⟨_, rfl⟩
 have H1 : Hid (LsB W b bb B part rep u v s pm l least most) := by show LsB _ _ _ _ _ _ _ _ _ _ _ _ _; rw [← hW]; exact H.out.below (Below.refl _ _).drew
 have hF1 : Hid (Frame [b] w W) := by show Frame _ _ _; rw [← hW]; exact hF.out.drew
 refine wp_region_noPanic ?_
 refine wp_region_until (S := HeldS (MostW b most)) 19 (by kernel_rfl) ?_
 rw [hW]
 clear hW H hF
 have s1 := H1.out.at'
 have H2 := Lib.hid (H1.out.set (lo' := min least lo) (hi' := most) 5 (.int .i64 (min least lo)) (s1.set_any 5 _ rfl))
 have H3 := Lib.hid (H2.out.set (lo' := min least lo) (hi' := max most hi) 6 (.int .i64 (max most hi)) (H2.out.at'.set_any 6 _ rfl))
 have HF3 := Lib.hid ((hF1.out.setc (b := b) (.inl (by simp)) 5 (.int .i64 (min least lo))).setc (b := b) (.inl (by simp)) 6 (.int .i64 (max most hi)))
 have hm1 : MostW b most W := s1.cell rfl
 have hm2 : MostW b most (W.setCell ⟨b, 5, none⟩ (.int .i64 (min least lo))) := H2.out.at'.cell rfl
 have hHeld : HeldS (MostW b most) W := HeldS.mk' hm1
 have hne : Nonempty (Held (MostW b most)) := ⟨⟨W, hm1⟩⟩
 have hfar := fun x : Held (MostW b most) => x.held.at
 have hneF : Nonempty (Held fun _ => True) := ⟨⟨W, trivial⟩⟩
 have f1 := s1.seven
 have l1 := s1.lt
 have f2 := H2.out.at'.seven
 have l2 := H2.out.at'.lt
 clear H1 hF1 H2 s1
 refine wpAnyU_run0F [true, true, true, true, true, false, true, false, true, true, true, false, true] 10 (by kernel_rfl) (by kernel_rfl) (fun _ _ _ _ h => h) (by kernel_rfl) hHeld ?_
 simp only [runOps_true, runOps_false, runOps_nil]
 repeat (first | go_big_quiet_skip | (go_big_quiet_want; go_big_quiet_op; go_big_quiet_on))
 refine wpQuiet_nil ?_
 refine wpAnyU_run0 [false, false, false, false, false, false, false, false, false, false, false, true] 9 (by kernel_rfl) (by kernel_rfl) (fun _ _ _ _ h => h) (by kernel_rfl) hHeld ?_
 simp only [runOps_true, runOps_false, runOps_nil]
 repeat (first | go_big_quiet_skip | (go_big_quiet_want; go_big_quiet_op; go_big_quiet_on))
 refine wpQuiet_nil ?_
 clear hfar hne
 refine wpAnyU_ready (rs := [5, 13]) (by kernel_rfl) (by simp) ?_
 refine AllReadyU.cons rfl (fun K hK => ?_) (AllReadyU.cons rfl (fun K hK => ?_) (AllReadyU.nil))
 ·go_simp
  go_wp2
  refine hK.out _ _ (fun _ => HeldS.mk' hm1) ?_
  clear hK K
  refine wpAnyU_ready (rs := [7, 13]) (by kernel_rfl) (by simp) ?_
  refine AllReadyU.cons rfl (fun K hK => ?_) (AllReadyU.cons rfl (fun K hK => ?_) (AllReadyU.nil))
  ·go_simp
   go_wp2
   refine hK.out _ _ (fun _ => HeldS.mk' hm1) ?_
   clear hK K
   refine wpAnyU_run0F [false, false, false, false, false, false, false, false, false, false, false, false, false, false, true, true] 5 (by kernel_rfl) (by kernel_rfl) (fun _ _ _ _ h => h) (by kernel_rfl) hHeld ?_
   simp only [runOps_true, runOps_false, runOps_nil]
   repeat (first | go_big_quiet_skip | (go_big_quiet_want; go_big_quiet_op; go_big_quiet_on))
   refine wpQuiet_nil ?_
   refine wpAnyU_ready (rs := [13, 16]) (by kernel_rfl) (by simp) ?_
   refine AllReadyU.cons rfl (fun K hK => ?_) (AllReadyU.cons rfl (fun K hK => ?_) (AllReadyU.nil))
   ·go_simp
    go_wp2
    refine hK.out _ _ (fun _ => HeldS.mk' hm1) ?_
    clear hK K
    refine wpAnyU_ready (rs := [16]) (by kernel_rfl) (by simp) ?_
    refine AllReadyU.cons rfl (fun K hK => ?_) (AllReadyU.nil)
    go_simp
    go_wp2
    refine hK.out _ _ (fun _ => HeldS.mk' hm2) ?_
    clear hK K
    replace hHeld : HeldS (MostW b most) (W.setCell ⟨b, 5, none⟩ (.int .i64 (min least lo))) := HeldS.mk' hm2
    clear f1 l1
    refine wpAnyU_run0F [false, false, false, false, false, false, false, false, false, false, false, false, false, false, false, false, false, true, true] 1 (by kernel_rfl) (by kernel_rfl) (fun _ _ _ _ h => h) (by kernel_rfl) hHeld ?_
    simp only [runOps_true, runOps_false, runOps_nil]
    repeat (first | go_big_quiet_skip | (go_big_quiet_want; go_big_quiet_op; go_big_quiet_on))
    refine wpQuiet_nil ?_
    refine wpAnyU_ready (rs := [19]) (by kernel_rfl) (by simp) ?_
    refine AllReadyU.cons rfl (fun K hK => ?_) (AllReadyU.nil)
    go_simp
    go_wp2
    refine hK.out _ _ (fun h => late_no h (by kernel_rfl)) ?_
    clear hK K
    refine wpAnyU_done (by kernel_rfl) ?_ _
    refine NoPanic.normal ?_
    clear hHeld f2 l2
    go_wp2
    exact bodyPost_end (results_none rfl _ _ _) rfl ⟨rfl, H3.out, HF3.out⟩
   ·go_simp
    go_wp2
    refine hK.out _ _ (fun _ => HeldS.mk' hm2) ?_
    clear hK K
    refine wpAnyU_ready (rs := [13]) (by kernel_rfl) (by simp) ?_
    refine AllReadyU.cons rfl (fun K hK => ?_) (AllReadyU.nil)
    go_simp
    go_wp2
    refine hK.out _ _ (fun _ => HeldS.mk' hm2) ?_
    clear hK K
    replace hHeld : HeldS (MostW b most) (W.setCell ⟨b, 5, none⟩ (.int .i64 (min least lo))) := HeldS.mk' hm2
    clear f1 l1
    refine wpAnyU_run0F [false, false, false, false, false, false, false, false, false, false, false, false, false, false, false, false, false, true, true] 1 (by kernel_rfl) (by kernel_rfl) (fun _ _ _ _ h => h) (by kernel_rfl) hHeld ?_
    simp only [runOps_true, runOps_false, runOps_nil]
    repeat (first | go_big_quiet_skip | (go_big_quiet_want; go_big_quiet_op; go_big_quiet_on))
    refine wpQuiet_nil ?_
    refine wpAnyU_ready (rs := [19]) (by kernel_rfl) (by simp) ?_
    refine AllReadyU.cons rfl (fun K hK => ?_) (AllReadyU.nil)
    go_simp
    go_wp2
    refine hK.out _ _ (fun h => late_no h (by kernel_rfl)) ?_
    clear hK K
    refine wpAnyU_done (by kernel_rfl) ?_ _
    refine NoPanic.normal ?_
    clear hHeld f2 l2
    go_wp2
    exact bodyPost_end (results_none rfl _ _ _) rfl ⟨rfl, H3.out, HF3.out⟩
  ·go_simp
   go_wp2
   refine hK.out _ _ (fun _ => HeldS.mk' hm1) ?_
   clear hK K
   refine wpAnyU_ready (rs := [7]) (by kernel_rfl) (by simp) ?_
   refine AllReadyU.cons rfl (fun K hK => ?_) (AllReadyU.nil)
   go_simp
   go_wp2
   refine hK.out _ _ (fun _ => HeldS.mk' hm1) ?_
   clear hK K
   refine wpAnyU_run0F [false, false, false, false, false, false, false, false, false, false, false, false, false, false, true, true] 4 (by kernel_rfl) (by kernel_rfl) (fun _ _ _ _ h => h) (by kernel_rfl) hHeld ?_
   simp only [runOps_true, runOps_false, runOps_nil]
   repeat (first | go_big_quiet_skip | (go_big_quiet_want; go_big_quiet_op; go_big_quiet_on))
   refine wpQuiet_nil ?_
   refine wpAnyU_ready (rs := [16]) (by kernel_rfl) (by simp) ?_
   refine AllReadyU.cons rfl (fun K hK => ?_) (AllReadyU.nil)
   go_simp
   go_wp2
   refine hK.out _ _ (fun _ => HeldS.mk' hm2) ?_
   clear hK K
   replace hHeld : HeldS (MostW b most) (W.setCell ⟨b, 5, none⟩ (.int .i64 (min least lo))) := HeldS.mk' hm2
   clear f1 l1
   refine wpAnyU_run0F [false, false, false, false, false, false, false, false, false, false, false, false, false, false, false, false, false, true, true] 1 (by kernel_rfl) (by kernel_rfl) (fun _ _ _ _ h => h) (by kernel_rfl) hHeld ?_
   simp only [runOps_true, runOps_false, runOps_nil]
   repeat (first | go_big_quiet_skip | (go_big_quiet_want; go_big_quiet_op; go_big_quiet_on))
   refine wpQuiet_nil ?_
   refine wpAnyU_ready (rs := [19]) (by kernel_rfl) (by simp) ?_
   refine AllReadyU.cons rfl (fun K hK => ?_) (AllReadyU.nil)
   go_simp
   go_wp2
   refine hK.out _ _ (fun h => late_no h (by kernel_rfl)) ?_
   clear hK K
   refine wpAnyU_done (by kernel_rfl) ?_ _
   refine NoPanic.normal ?_
   clear hHeld f2 l2
   go_wp2
   exact bodyPost_end (results_none rfl _ _ _) rfl ⟨rfl, H3.out, HF3.out⟩
 ·go_simp
  go_wp2
  refine hK.out _ _ (fun _ => HeldS.mk' hm1) ?_
  clear hK K
  refine wpAnyU_ready (rs := [5]) (by kernel_rfl) (by simp) ?_
  refine AllReadyU.cons rfl (fun K hK => ?_) (AllReadyU.nil)
  go_simp
  go_wp2
  refine hK.out _ _ (fun _ => HeldS.mk' hm1) ?_
  clear hK K
  refine wpAnyU_ready (rs := [7]) (by kernel_rfl) (by simp) ?_
  refine AllReadyU.cons rfl (fun K hK => ?_) (AllReadyU.nil)
  go_simp
  go_wp2
  refine hK.out _ _ (fun _ => HeldS.mk' hm1) ?_
  clear hK K
  refine wpAnyU_run0F [false, false, false, false, false, false, false, false, false, false, false, false, false, false, true, true] 4 (by kernel_rfl) (by kernel_rfl) (fun _ _ _ _ h => h) (by kernel_rfl) hHeld ?_
  simp only [runOps_true, runOps_false, runOps_nil]
  repeat (first | go_big_quiet_skip | (go_big_quiet_want; go_big_quiet_op; go_big_quiet_on))
  refine wpQuiet_nil ?_
  refine wpAnyU_ready (rs := [16]) (by kernel_rfl) (by simp) ?_
  refine AllReadyU.cons rfl (fun K hK => ?_) (AllReadyU.nil)
  go_simp
  go_wp2
  refine hK.out _ _ (fun _ => HeldS.mk' hm2) ?_
  clear hK K
  replace hHeld : HeldS (MostW b most) (W.setCell ⟨b, 5, none⟩ (.int .i64 (min least lo))) := HeldS.mk' hm2
  clear f1 l1
  refine wpAnyU_run0F [false, false, false, false, false, false, false, false, false, false, false, false, false, false, false, false, false, true, true] 1 (by kernel_rfl) (by kernel_rfl) (fun _ _ _ _ h => h) (by kernel_rfl) hHeld ?_
  simp only [runOps_true, runOps_false, runOps_nil]
  repeat (first | go_big_quiet_skip | (go_big_quiet_want; go_big_quiet_op; go_big_quiet_on))
  refine wpQuiet_nil ?_
  refine wpAnyU_ready (rs := [19]) (by kernel_rfl) (by simp) ?_
  refine AllReadyU.cons rfl (fun K hK => ?_) (AllReadyU.nil)
  go_simp
  go_wp2
  refine hK.out _ _ (fun h => late_no h (by kernel_rfl)) ?_
  clear hK K
  refine wpAnyU_done (by kernel_rfl) ?_ _
  refine NoPanic.normal ?_
  clear hHeld f2 l2
  go_wp2
  exact bodyPost_end (results_none rfl _ _ _) rfl ⟨rfl, H3.out, HF3.out⟩
theorem lsend_any (b bb : Nat) (B : List Nat) (part : Nat → Int) (rep : Int → Int) (u v : Int) (s : Bool) (pm : Int) (l : List (Int × Int)) (least most lo hi : Int) (w : World) (h : LsB w b bb B part rep u v s pm l least most) (hv : VOk l) :
  Calls Tryz.prog 184 #[.pointer (some ⟨b, 0, none⟩), .int .i64 lo, .int .i64 hi] w fun e w' => e = .returned (.tuple #[]) ∧ LsB w' b bb B part rep u v s pm l (if sumP l = 0 then lo else min least lo) (if sumP l = 0 then hi else max most hi) ∧ Frame [b] w w' := by
 by_cases h0 : sumP l = 0
 ·rw [if_pos h0, if_pos h0]; exact lsend_none _ _ _ _ _ _ _ _ _ _ _ _ _ _ w h hv h0
 ·rw [if_neg h0, if_neg h0]; exact lsend_more _ _ _ _ _ _ _ _ _ _ _ _ _ _ w h hv h0
def LpvR (b : Nat) (S : List Nat) (part : Nat → Int) (rep : Int → Int) (u v : Int) (s : Bool) (most : Int) (l : List (Int × Int)) (w w' : World) : Prop := ∃ S', GrownS S S' w.heap.size ∧ LsV w' b S' part rep u v s most l ∧ Frame S w w'
theorem LpvR.same {b : Nat} {S : List Nat} {part : Nat → Int} {rep : Int → Int} {u v : Int} {s : Bool} {most : Int} {l : List (Int × Int)} {w w' : World} (h : LsV w b S part rep u v s most l) (hb : Below w.heap.size w w') : LpvR b S part rep u v s most l w w' := ⟨S, fun j hj => .inl hj, h.below hb, Frame.of_below hb⟩
theorem LsB.binned {w w' : World} {b bb : Nat} {B B' : List Nat} {part : Nat → Int} {rep : Int → Int} {u v : Int} {s : Bool} {most lo hi : Int} {l l' : List (Int × Int)} (h : LsB w b bb B part rep u v s most l lo hi) (hg : GrownS B B' w.heap.size) (hX : BnV w' bb B' false part rep s most l') (hF : Frame B w w') : LsB w' b bb B' part rep u v s most l' lo hi :=
 ⟨hF.at h.at' h.nb, hX, fun hm => by
  rcases hg b hm with h1 | h1
  ·exact h.nb h1
  ·have := h.at'.lt; omega⟩
theorem grown_cons {b : Nat} {B B' : List Nat} {n n' : Nat} (h : GrownS B B' n) (hn : n' ≤ n) : GrownS (b :: B) (b :: B') n' := fun j hj => by
 rcases List.mem_cons.1 hj with rfl | hj
 ·exact .inl (by simp)
 ·rcases h j hj with h1 | h1
  ·exact .inl (by simp [h1])
  ·exact .inr (by omega)
set_option maxRecDepth 100000 in
set_option maxHeartbeats 2000000 in
theorem lsput_v (b : Nat) (S : List Nat) (part : Nat → Int) (rep : Int → Int) (u v : Int) (s : Bool) (most x c : Int) (l : List (Int × Int)) (w : World) (h : LsV w b S part rep u v s most l) (hv : VOk l) (hx : -9223372036854775808 ≤ x ∧ x ≤ 9223372036854775807) (hc : 0 < c) (hs : sumP l + c ≤ 9223372036854775807) :
  Calls Tryz.prog 181 #[.pointer (some ⟨b, 0, none⟩), .int .i64 x, .int .u64 c] w fun e w' => e = .returned (.int .i64 0) ∧ LpvR b S part rep u v s most (l ++ [(x, c)]) w w' := by
 obtain ⟨bb, B, rfl, h⟩ := h
 have H := Lib.hid h
 have HEN := Lib.hid fun W (hb : Below w.heap.size w W) => lsend_any b bb B part rep u v s most l _ _ x x W (h.below hb) hv
 have HAD := Lib.hid fun W (k : BnV W bb B false part rep s most l) => badd_v bb B false part rep s most x c l W k hv hx hc hs
 obtain ⟨e1, e2⟩ := eLow_snoc hv x c
 have HFI : Hid (∀ w1 w2 lo hi, LsB w1 b bb B part rep u v s most l lo hi → lo = (if sumP l = 0 then x else min (eLow l) x) → hi = (if sumP l = 0 then x else max (eHigh l) x) → Frame [b] w w1 → BpvR bb B false part rep s most (l ++ [(x, c)]) w1 w2 → LpvR b (b :: B) part rep u v s most (l ++ [(x, c)]) w w2) := by
  intro w1 w2 lo hi k e3 e4 hF ⟨B', hg, hX, hF2⟩
  refine ⟨b :: B', grown_cons hg hF.size, ⟨bb, B', rfl, ?_⟩, (hF.mono (by simp)).trans (hF2.mono fun j hj => by simp [hj])⟩
  rw [e1, e2, ← e3, ← e4]
  exact k.binned hg hX hF2
 have s1 := h.at'
 obtain ⟨el, hel⟩ : ∃ z, eLow l = z := ⟨_, rfl⟩
 obtain ⟨eh, heh⟩ : ∃ z, eHigh l = z := ⟨_, rfl⟩
 rw [hel, heh] at s1 HEN H HFI
 clear h hel heh hv hx hc hs e1 e2
 go_enter Tryz.func181, Tryz.ntmps181
 go_wp2
 have hfar1 := fun x : Far w => (x.at s1).seven
 refine wp_region_far (by kernel_rfl) (by kernel_rfl) ?_
 repeat (first | go_big_quiet_skip | (go_big_quiet_want; go_big_quiet_op; first | go_big_quiet_on | (apply Exists.intro; refine ⟨fun _ => ?_, ?_⟩; (focus (first | (fail))); go_big_quiet_on)))
 refine wpQuiet_nil ?_
 rintro _ ⟨xq, rfl⟩
 clear hfar1
 have hb := xq.below
 obtain ⟨W1, hW1⟩ : ∃ W, xq.far = W := ⟨_, rfl⟩
 rw [hW1] at hb ⊢
 clear hW1 s1
 have HB := Lib.hid hb
 clear hb
 go_wp2_with fail
 refine (HEN.out W1 HB.out).mono ?_
 rintro e w2 ⟨rfl, hL, hF⟩
 have HL := Lib.hid hL
 have HF : Hid (Frame [b] w w2) := (Frame.of_below HB.out).trans hF
 have f2 := hL.at'.seven
 have l2 := hL.at'.lt
 clear hL hF HEN HB H
 go_wp2_with fail
 refine (HAD.out w2 HL.out.bn).mono ?_
 rintro e w3 ⟨rfl, hp⟩
 have HP := Lib.hid (HFI.out w2 w3 _ _ HL.out rfl rfl HF.out hp)
 clear hp HAD HFI HL HF f2 l2
 go_wp2
 go_ret
 exact ⟨rfl, HP.out⟩
set_option maxRecDepth 100000 in
set_option maxHeartbeats 2000000 in
theorem lsput_no (b : Nat) (S : List Nat) (part : Nat → Int) (rep : Int → Int) (u v : Int) (s : Bool) (most x c cd : Int) (l : List (Int × Int)) (w : World) (h : LsV w b S part rep u v s most l) (hv : VOk l) (hcd : cd ≠ 0)
  (hadd : ∀ bb B W, BnV W bb B false part rep s most l → Calls Tryz.prog 185 #[.pointer (some ⟨bb, 0, none⟩), .int .i64 x, .int .u64 c] W fun e w' => e = .returned (.int .i64 cd) ∧ Below W.heap.size W w') :
  Calls Tryz.prog 181 #[.pointer (some ⟨b, 0, none⟩), .int .i64 x, .int .u64 c] w fun e w' => e = .returned (.int .i64 cd) ∧ LpvR b S part rep u v s most l w w' := by
 obtain ⟨bb, B, rfl, h⟩ := h
 have HEN := Lib.hid fun W (hb : Below w.heap.size w W) => lsend_any b bb B part rep u v s most l _ _ x x W (h.below hb) hv
 have HAD := Lib.hid fun W (k : BnV W bb B false part rep s most l) => hadd bb B W k
 have HFI : Hid (∀ w2, LsB w2 b bb B part rep u v s most l (eLow l) (eHigh l) → Frame [b] w w2 → LpvR b (b :: B) part rep u v s most l w w2) := fun w2 k hF => ⟨b :: B, fun j hj => .inl hj, ⟨bb, B, rfl, k⟩, hF.mono (by simp)⟩
 have s1 := h.at'
 have hd : (cd != 0) = true := bne_iff_ne.2 hcd
 obtain ⟨el, hel⟩ : ∃ z, eLow l = z := ⟨_, rfl⟩
 obtain ⟨eh, heh⟩ : ∃ z, eHigh l = z := ⟨_, rfl⟩
 rw [hel, heh] at s1 HEN HFI
 clear h hel heh hv hadd hcd
 go_enter Tryz.func181, Tryz.ntmps181
 go_wp2
 have hfar1 := fun x : Far w => (x.at s1).seven
 refine wp_region_far (by kernel_rfl) (by kernel_rfl) ?_
 repeat (first | go_big_quiet_skip | (go_big_quiet_want; go_big_quiet_op; first | go_big_quiet_on | (apply Exists.intro; refine ⟨fun _ => ?_, ?_⟩; (focus (first | (fail))); go_big_quiet_on)))
 refine wpQuiet_nil ?_
 rintro _ ⟨xq, rfl⟩
 clear hfar1
 have hb := xq.below
 obtain ⟨W1, hW1⟩ : ∃ W, xq.far = W := ⟨_, rfl⟩
 rw [hW1] at hb ⊢
 clear hW1 s1
 have HB := Lib.hid hb
 clear hb
 go_wp2_with fail
 refine (HEN.out W1 HB.out).mono ?_
 rintro e w2 ⟨rfl, hL, hF⟩
 have HL := Lib.hid hL
 have HF : Hid (Frame [b] w w2) := (Frame.of_below HB.out).trans hF
 have f2 := hL.at'.seven
 have l2 := hL.at'.lt
 clear hL hF HEN HB
 go_wp2_with fail
 refine (HAD.out w2 HL.out.bn).mono ?_
 rintro e w3 ⟨rfl, hb⟩
 have HL3 := Lib.hid (HL.out.below hb)
 have HF3 : Hid (Frame [b] w w3) := HF.out.trans (Frame.of_below hb)
 have s3 := HL3.out.at'
 have H4 := Lib.hid (HL3.out.set (lo' := el) 5 (.int .i64 el) (s3.set_any 5 _ rfl))
 have H5 := Lib.hid (H4.out.set (lo' := el) (hi' := eh) 6 (.int .i64 eh) (H4.out.at'.set_any 6 _ rfl))
 have HP := Lib.hid (HFI.out _ H5.out ((HF3.out.setc (b := b) (.inl (by simp)) 5 (.int .i64 el)).setc (b := b) (.inl (by simp)) 6 (.int .i64 eh)))
 have f3 := s3.seven
 have l3 := s3.lt
 clear hb HAD HFI HL HF f2 l2 HL3 HF3 s3 H4 H5
 go_wp2
 go_ret
 exact ⟨rfl, HP.out⟩
theorem lsput_zero (b : Nat) (S : List Nat) (part : Nat → Int) (rep : Int → Int) (u v : Int) (s : Bool) (most x : Int) (l : List (Int × Int)) (w : World) (h : LsV w b S part rep u v s most l) (hv : VOk l) :
  Calls Tryz.prog 181 #[.pointer (some ⟨b, 0, none⟩), .int .i64 x, .int .u64 0] w fun e w' => e = .returned (.int .i64 1) ∧ LpvR b S part rep u v s most l w w' :=
 lsput_no b S part rep u v s most x 0 1 l w h hv (by omega) fun bb B W _ => (badd_zero bb x W).mono fun e w' k => ⟨k.1, by rw [← k.2]; exact Below.refl _ _⟩
end Go.Proofs.YtlbnlmhcpephbaaGreatDoor

namespace Go.Proofs.YtlbnlmhcpephbaaGreatDoor
open Go.RowKit
def goodF (n d : Int) : Bool := decide (0 < d ∧ n ≤ d)
theorem sgood_any (n d : Int) (w : World) (h1 : 0 ≤ n) (h2 : n < 18446744073709551616) (h3 : 0 ≤ d) (h4 : d < 18446744073709551616) :
  Calls Tryz.prog 189 #[.agg #[.int .u64 n, .int .u64 d]] w fun e w' => e = .returned (.bool (goodF n d)) ∧ Below w.heap.size w w' := by
 have HG : Hid (goodF n d = decide (0 < d ∧ n ≤ d)) := rfl
 by_cases hd : 0 < d
 ·go_enter Tryz.func189, Tryz.ntmps189
  go_wp2
  go_ret
  exact ⟨by rw [HG.out]; simp [hd], (by repeat (first | with_reducible assumption | with_reducible exact Below.refl _ _ | with_reducible refine Below.drew ?_ | with_reducible refine Below.drewN ?_ _ | with_reducible refine Below.setCell ?_ (by first | omega | (simp; done) | (simp; omega)) _ | with_reducible refine Below.alloc ?_ (by first | omega | (simp; done) | (simp; omega) | (simp [World.setCell]; omega)) _))⟩
 ·go_enter Tryz.func189, Tryz.ntmps189
  go_wp2
  go_ret
  exact ⟨by rw [HG.out]; simp; omega, (by repeat (first | with_reducible assumption | with_reducible exact Below.refl _ _ | with_reducible refine Below.drew ?_ | with_reducible refine Below.drewN ?_ _ | with_reducible refine Below.setCell ?_ (by first | omega | (simp; done) | (simp; omega)) _ | with_reducible refine Below.alloc ?_ (by first | omega | (simp; done) | (simp; omega) | (simp [World.setCell]; omega)) _))⟩
theorem rgood_any (n d : Int) (w : World) (h1 : 0 ≤ n) (h2 : n < 18446744073709551616) (h3 : 0 ≤ d) (h4 : d < 18446744073709551616) :
  Calls Tryz.prog 9 #[.agg #[.int .u64 n, .int .u64 d]] w fun e w' => e = .returned (.bool (goodF n d)) ∧ Below w.heap.size w w' := by
 have HG : Hid (goodF n d = decide (0 < d ∧ n ≤ d)) := rfl
 by_cases hd : d = 0
 ·subst hd
  go_enter Tryz.func9, Tryz.ntmps9
  go_wp2
  go_ret
  exact ⟨by rw [HG.out]; simp, (by repeat (first | with_reducible assumption | with_reducible exact Below.refl _ _ | with_reducible refine Below.drew ?_ | with_reducible refine Below.drewN ?_ _ | with_reducible refine Below.setCell ?_ (by first | omega | (simp; done) | (simp; omega)) _ | with_reducible refine Below.alloc ?_ (by first | omega | (simp; done) | (simp; omega) | (simp [World.setCell]; omega)) _))⟩
 ·have hd' : (d == 0) = false := beq_eq_false_iff_ne.2 hd
  have hd2 := Lib.hid hd
  by_cases hn : d < n
  ·go_enter Tryz.func9, Tryz.ntmps9
   go_wp2
   go_ret
   have hn' : d < n := by assumption
   exact ⟨by rw [HG.out]; simp; omega, (by repeat (first | with_reducible assumption | with_reducible exact Below.refl _ _ | with_reducible refine Below.drew ?_ | with_reducible refine Below.drewN ?_ _ | with_reducible refine Below.setCell ?_ (by first | omega | (simp; done) | (simp; omega)) _ | with_reducible refine Below.alloc ?_ (by first | omega | (simp; done) | (simp; omega) | (simp [World.setCell]; omega)) _))⟩
  ·go_enter Tryz.func9, Tryz.ntmps9
   go_wp2
   go_ret
   have hn' : n ≤ d := by assumption
   exact ⟨by rw [HG.out, decide_eq_true (⟨by have := hd2.out; omega, hn'⟩ : 0 < d ∧ n ≤ d)]; first | rfl | (simp; omega), (by repeat (first | with_reducible assumption | with_reducible exact Below.refl _ _ | with_reducible refine Below.drew ?_ | with_reducible refine Below.drewN ?_ _ | with_reducible refine Below.setCell ?_ (by first | omega | (simp; done) | (simp; omega)) _ | with_reducible refine Below.alloc ?_ (by first | omega | (simp; done) | (simp; omega) | (simp [World.setCell]; omega)) _))⟩
def placeT (a d n : Int) : Int := if goodF a d = true then (if n = 0 then 0 else max (ceilQ (a * n) d) 1) else 0
def placeE (a d n : Int) : Int := if goodF a d = true then (if n = 0 then 5 else 0) else 1
theorem max_if (x : Int) : (if x < 1 then 1 else x) = max x 1 := by split <;> omega
theorem place_any (a d n : Int) (w : World) (h1 : 0 ≤ a) (h2 : a < 18446744073709551616) (h3 : 0 ≤ d) (h4 : d < 18446744073709551616) (h5 : 0 ≤ n) (h6 : n < 18446744073709551616) :
  Calls Tryz.prog 186 #[.agg #[.int .u64 a, .int .u64 d], .int .u64 n] w fun e w' => e = .returned (.tuple #[.int .u64 (placeT a d n), .int .i64 (placeE a d n)]) ∧ Below w.heap.size w w' := by
 go_enter Tryz.func186, Tryz.ntmps186
 go_wp2_with fail
 refine (sgood_any a d _ h1 h2 h3 h4).mono ?_
 rintro e w1 ⟨rfl, hb⟩
 have s1 : At w1 w.heap.size #[.int .u64 a, .int .u64 d] 25 := At.below (At.new' _ _ _ rfl) hb
 have hB : Below w.heap.size w w1 := Below.trans (by repeat (first | with_reducible assumption | with_reducible exact Below.refl _ _ | with_reducible refine Below.drew ?_ | with_reducible refine Below.drewN ?_ _ | with_reducible refine Below.setCell ?_ (by first | omega | (simp; done) | (simp; omega)) _ | with_reducible refine Below.alloc ?_ (by first | omega | (simp; done) | (simp; omega) | (simp [World.setCell]; omega)) _)) (hb.mono (by first | omega | (simp; done) | (simp; omega) | (simp [World.setCell]; omega)))
 have f1 := s1.two
 have z1 := hB.size
 clear hb
 cases hg : goodF a d
 ·have e1 : Hid (placeT a d n = 0) := by show _ = _; unfold placeT; rw [hg]; rfl
  have e2 : Hid (placeE a d n = 1) := by show _ = _; unfold placeE; rw [hg]; rfl
  go_wp2
  go_ret2
  exact ⟨by rw [e1.out, e2.out]; rfl, hB⟩
 ·by_cases hn : n = 0
  ·have e1 : Hid (placeT a d n = 0) := by show _ = _; unfold placeT; rw [hg, if_pos rfl, if_pos hn]
   have e2 : Hid (placeE a d n = 5) := by show _ = _; unfold placeE; rw [hg, if_pos rfl, if_pos hn]
   subst hn
   go_wp2
   go_ret2
   exact ⟨by rw [e1.out, e2.out]; rfl, hB⟩
  ·have e1 : Hid (placeT a d n = max (ceilQ (a * n) d) 1) := by show _ = _; unfold placeT; rw [hg, if_pos rfl, if_neg hn]
   have e2 : Hid (placeE a d n = 0) := by show _ = _; unfold placeE; rw [hg, if_pos rfl, if_neg hn]
   have hn' : (n == 0) = false := beq_eq_false_iff_ne.2 hn
   go_wp2_with fail
   refine (ceil_any a n d _ h1 h2 h5 h6 h3 h4).mono ?_
   rintro e w2 ⟨rfl, hb⟩
   obtain ⟨q, hq⟩ : ∃ q, ceilQ (a * n) d = q := ⟨_, rfl⟩
   rw [hq] at e1 ⊢
   have hm := max_if q
   go_wp2
   go_ret2
   exact ⟨by rw [e1.out, e2.out]; first | rfl | simp, keep1 hB hb⟩
theorem rplace_any (a d n : Int) (w : World) (h1 : 0 ≤ a) (h2 : a < 18446744073709551616) (h3 : 0 ≤ d) (h4 : d < 18446744073709551616) (h5 : 0 ≤ n) (h6 : n < 18446744073709551616) :
  Calls Tryz.prog 12 #[.agg #[.int .u64 a, .int .u64 d], .int .u64 n] w fun e w' => e = .returned (.tuple #[.int .u64 (placeT a d n), .int .i64 (placeE a d n)]) ∧ Below w.heap.size w w' := by
 go_enter Tryz.func12, Tryz.ntmps12
 go_wp2_with fail
 refine (rgood_any a d _ h1 h2 h3 h4).mono ?_
 rintro e w1 ⟨rfl, hb⟩
 have s1 : At w1 w.heap.size #[.int .u64 a, .int .u64 d] 25 := At.below (At.new' _ _ _ rfl) hb
 have hB : Below w.heap.size w w1 := Below.trans (by repeat (first | with_reducible assumption | with_reducible exact Below.refl _ _ | with_reducible refine Below.drew ?_ | with_reducible refine Below.drewN ?_ _ | with_reducible refine Below.setCell ?_ (by first | omega | (simp; done) | (simp; omega)) _ | with_reducible refine Below.alloc ?_ (by first | omega | (simp; done) | (simp; omega) | (simp [World.setCell]; omega)) _)) (hb.mono (by first | omega | (simp; done) | (simp; omega) | (simp [World.setCell]; omega)))
 have f1 := s1.two
 have z1 := hB.size
 clear hb
 cases hg : goodF a d
 ·have e1 : Hid (placeT a d n = 0) := by show _ = _; unfold placeT; rw [hg]; rfl
  have e2 : Hid (placeE a d n = 1) := by show _ = _; unfold placeE; rw [hg]; rfl
  go_wp2
  go_ret2
  exact ⟨by rw [e1.out, e2.out]; rfl, hB⟩
 ·by_cases hn : n = 0
  ·have e1 : Hid (placeT a d n = 0) := by show _ = _; unfold placeT; rw [hg, if_pos rfl, if_pos hn]
   have e2 : Hid (placeE a d n = 5) := by show _ = _; unfold placeE; rw [hg, if_pos rfl, if_pos hn]
   subst hn
   go_wp2
   go_ret2
   exact ⟨by rw [e1.out, e2.out]; rfl, hB⟩
  ·have e1 : Hid (placeT a d n = max (ceilQ (a * n) d) 1) := by show _ = _; unfold placeT; rw [hg, if_pos rfl, if_neg hn]
   have e2 : Hid (placeE a d n = 0) := by show _ = _; unfold placeE; rw [hg, if_pos rfl, if_neg hn]
   have hn' : (n == 0) = false := beq_eq_false_iff_ne.2 hn
   have hq0 : 0 ≤ ceilQ (a * n) d := (ceilQ_bd _ _ (Int.mul_nonneg h1 h5) h3).1
   go_wp2_with fail
   refine (rceil_any a n d _ h1 h2 h5 h6 h3 h4).mono ?_
   rintro e w2 ⟨rfl, hb⟩
   obtain ⟨q, hq⟩ : ∃ q, ceilQ (a * n) d = q := ⟨_, rfl⟩
   rw [hq] at e1 hq0 ⊢
   by_cases h0 : q = 0
   ·subst h0
    go_wp2
    go_ret2
    exact ⟨by rw [e1.out, e2.out]; rfl, keep1 hB hb⟩
   ·have h0' : (q == 0) = false := beq_eq_false_iff_ne.2 h0
    have e3 := Lib.hid (show max q 1 = q by omega)
    go_wp2
    go_ret2
    exact ⟨by rw [e1.out, e2.out, e3.out]; rfl, keep1 hB hb⟩
end Go.Proofs.YtlbnlmhcpephbaaGreatDoor

namespace Go.Proofs.YtlbnlmhcpephbaaGreatDoor
open Go.RowKit
end Go.Proofs.YtlbnlmhcpephbaaGreatDoor

namespace Go.Proofs.YtlbnlmhcpephbaaGreatDoor
open Go.RowKit
def lessF (an ad bn bd : Int) : Bool := if ad = 0 then false else if bd = 0 then true else decide (an * bd < bn * ad)
end Go.Proofs.YtlbnlmhcpephbaaGreatDoor

namespace Go.Proofs.YtlbnlmhcpephbaaGreatDoor
theorem goodF_iff {a d : Int} : goodF a d = true ↔ 0 < d ∧ a ≤ d := by unfold goodF; exact decide_eq_true_iff
structure IsPlace (a d n t : Int) : Prop where
 one : 1 ≤ t
 le : t ≤ n
 up : a * n ≤ t * d
 least : t = 1 ∨ (t - 1) * d < a * n
theorem placeT_is {a d n : Int} (ha : 0 ≤ a) (hn : 0 < n) (hn' : n < 18446744073709551616) (hg : goodF a d = true) : IsPlace a d n (placeT a d n) := by
 obtain ⟨hd, had⟩ := goodF_iff.1 hg
 unfold placeT
 rw [if_pos hg, if_neg (by omega)]
 have h1 : a * n ≤ d * n := Int.mul_le_mul_of_nonneg_right had (by omega)
 have h2 : d * n ≤ d * 18446744073709551615 := Int.mul_le_mul_of_nonneg_left (by omega) (by omega)
 have h0 : 0 ≤ a * n := Int.mul_nonneg ha (by omega)
 unfold ceilQ
 rw [if_pos ⟨Int.le_trans h1 h2, hd⟩]
 obtain ⟨X, hX⟩ : ∃ X, a * n = X := ⟨_, rfl⟩
 rw [hX] at h0 h1 ⊢
 obtain ⟨c, hc⟩ : ∃ c, (X + d - 1) / d = c := ⟨_, rfl⟩
 have e1 := Int.ediv_mul_le (X + d - 1) (show d ≠ 0 by omega)
 have e2 := Int.lt_ediv_add_one_mul_self (X + d - 1) hd
 rw [hc] at e1 e2 ⊢
 rw [Int.add_mul, Int.one_mul] at e2
 have hc0 : 0 ≤ c := by rw [← hc]; exact Int.ediv_nonneg (by omega) (by omega)
 have hcn : c ≤ n := by
  rcases Int.lt_or_le n c with h | h
  ·exfalso
   have h3 : (n + 1) * d ≤ c * d := Int.mul_le_mul_of_nonneg_right (by omega) (by omega)
   rw [Int.add_mul, Int.one_mul, Int.mul_comm n d] at h3
   omega
  ·exact h
 refine ⟨by omega, by omega, ?_, ?_⟩
 ·have h3 : c * d ≤ max c 1 * d := Int.mul_le_mul_of_nonneg_right (by omega) (by omega)
  omega
 ·rcases (show max c 1 = 1 ∨ (max c 1 = c ∧ 1 < c) by omega) with h | ⟨h, _⟩
  ·exact .inl h
  ·rw [h, Int.sub_mul, Int.one_mul]
   exact .inr (by omega)
end Go.Proofs.YtlbnlmhcpephbaaGreatDoor

namespace Go.Proofs.YtlbnlmhcpephbaaGreatDoor
open Go.RowKit
theorem conf_same (u v z m : Int) (w : World) : (binOp .neq 103 (.agg #[.int .u64 u, .int .u64 v, .int .i64 z, .int .i64 m]) (.agg #[.int .u64 u, .int .u64 v, .int .i64 z, .int .i64 m])).run Tryz.prog w = .ok (.bool false) w := by
 go_simp
theorem At.set4 {w : World} {b : Nat} {T : TypeId} {u0 u1 u2 u3 : Value} (h : At w b #[u0, u1, u2, u3] T) (v0 v1 v2 v3 : Value) : At ((((w.setCell ⟨b, 0, none⟩ v0).setCell ⟨b, 1, none⟩ v1).setCell ⟨b, 2, none⟩ v2).setCell ⟨b, 3, none⟩ v3) b #[v0, v1, v2, v3] T :=
 (((h.set_any 0 v0 rfl).set_any 1 v1 rfl).set_any 2 v2 rfl).set_any 3 v3 rfl
theorem lsconf_at (b : Nat) (x0 x5 x6 : Value) (u v z m : Int) (w : World) (h : At w b #[x0, .int .u64 u, .int .u64 v, .int .i64 z, .int .i64 m, x5, x6] 154) :
  Calls Tryz.prog 199 #[.pointer (some ⟨b, 0, none⟩)] w fun e w' => e = .returned (.agg #[.int .u64 u, .int .u64 v, .int .i64 z, .int .i64 m]) ∧ Below w.heap.size w w' := by
 have f1 := (h.below ((Below.refl _ _).alloc (Nat.le_refl _) (.cells #[.int .u64 0, .int .u64 0, .int .i64 0, .int .i64 0] 103))).seven
 have s1 := At.new w #[.int .u64 0, .int .u64 0, .int .i64 0, .int .i64 0] 103
 clear h
 go_enter Tryz.func199, Tryz.ntmps199
 go_wp2
 have d2 := (s1.set4 (.int .u64 u) (.int .u64 v) (.int .i64 z) (.int .i64 m)).four
 exact bodyPost_ret (v := .agg #[.int .u64 u, .int .u64 v, .int .i64 z, .int .i64 m]) (by simp only [results, Tryz.f199]; simp [go_sem, d2]) rfl ⟨rfl, (by repeat (first | with_reducible assumption | with_reducible exact Below.refl _ _ | with_reducible refine Below.drew ?_ | with_reducible refine Below.drewN ?_ _ | with_reducible refine Below.setCell ?_ (by first | omega | (simp; done) | (simp; omega)) _ | with_reducible refine Below.alloc ?_ (by first | omega | (simp; done) | (simp; omega) | (simp [World.setCell]; omega)) _))⟩
def LsSet (b : Nat) (S : List Nat) (part : Nat → Int) (rep : Int → Int) (u v : Int) (s : Bool) (most : Int) (l : List (Int × Int)) (lo hi : Int) (w : World) (e : Ending) (w' : World) : Prop :=
 ((lo ≤ hi ∧ (sumP l = 0 → lo = 0 ∧ hi = 0)) ∧ e = .returned (.bool true) ∧ Ls w' b S part rep u v s most l lo hi ∧ Frame S w w') ∨
 (¬ (lo ≤ hi ∧ (sumP l = 0 → lo = 0 ∧ hi = 0)) ∧ e = .returned (.bool false) ∧ Below w.heap.size w w')
set_option maxRecDepth 100000 in
set_option maxHeartbeats 2000000 in
theorem lsset_k (b : Nat) (S : List Nat) (part : Nat → Int) (rep : Int → Int) (u v : Int) (s : Bool) (most : Int) (l : List (Int × Int)) (el eh lo hi : Int) (w : World) (h : Ls w b S part rep u v s most l el eh) (hv : VOk l) :
  Calls Tryz.prog 87 #[.pointer (some ⟨b, 0, none⟩), .int .i64 lo, .int .i64 hi] w fun e w' => LsSet b S part rep u v s most l lo hi w e w' := by
 obtain ⟨bb, B, rfl, h⟩ := h
 have HT := Lib.hid (btot_v bb B false part rep s most l w h.bn hv)
 have H := Lib.hid h
 have f1 := h.at'.seven
 have l1 := h.at'.lt
 obtain ⟨t, ht⟩ : ∃ t, sumP l = t := ⟨_, rfl⟩
 have HTT := Lib.hid ht
 rw [ht] at HT
 have HNO : Hid (¬ (lo ≤ hi ∧ (t = 0 → lo = 0 ∧ hi = 0)) → ∀ w', Below w.heap.size w w' → LsSet b (b :: B) part rep u v s most l lo hi w (.returned (.bool false)) w') := fun hn w' hb => .inr ⟨by rw [HTT.out]; exact hn, rfl, hb⟩
 have HYES : Hid ((lo ≤ hi ∧ (t = 0 → lo = 0 ∧ hi = 0)) → ∀ w1, Below w.heap.size w w1 → LsSet b (b :: B) part rep u v s most l lo hi w (.returned (.bool true)) ((w1.setCell ⟨b, 5, none⟩ (.int .i64 lo)).setCell ⟨b, 6, none⟩ (.int .i64 hi))) := fun hy w1 hb => by
  have k1 := H.out.below hb
  have k2 := k1.set (lo' := lo) 5 (.int .i64 lo) (k1.at'.set_any 5 _ rfl)
  have k3 := k2.set (lo' := lo) (hi' := hi) 6 (.int .i64 hi) (k2.at'.set_any 6 _ rfl)
  exact .inl ⟨by rw [HTT.out]; exact hy, rfl, ⟨bb, B, rfl, k3⟩, ((Frame.of_below hb).setc (b := b) (.inl (by simp)) 5 _).setc (b := b) (.inl (by simp)) 6 _⟩
 have HA := Lib.hid fun W (hb : Below w.heap.size w W) => (h.below hb).at'
 clear h hv ht
 by_cases h0 : t = 0
 ·have hd : (t == 0) = true := beq_iff_eq.2 h0
  by_cases hl : lo = 0
  ·have hl0 : (lo != 0) = false := by rw [hl]; rfl
   by_cases hh : hi = 0
   ·have hh0 : (hi != 0) = false := by rw [hh]; rfl
    have hg : decide (hi < lo) = false := decide_eq_false (by omega)
    have HY := Lib.hid (HYES.out ⟨by omega, fun _ => ⟨hl, hh⟩⟩)
    clear h0 hl hh HYES HNO
    go_enter Tryz.func87, Tryz.ntmps87
    go_wp2_with fail
    refine HT.out.mono ?_
    rintro e w1 ⟨rfl, hb⟩
    have f2 := (HA.out w1 hb).seven
    have l2 := (HA.out w1 hb).lt
    have HY2 := Lib.hid (HY.out w1 hb)
    clear hb HT f1 l1 HY HA
    go_wp2
    go_ret
    exact HY2.out
   ·have hh0 : (hi != 0) = true := bne_iff_ne.2 hh
    have HN := Lib.hid (HNO.out fun k => hh (k.2 h0).2)
    clear h0 hl hh HYES HNO
    go_enter Tryz.func87, Tryz.ntmps87
    go_wp2_with fail
    refine HT.out.mono ?_
    rintro e w1 ⟨rfl, hb⟩
    have HN2 := Lib.hid (HN.out w1 hb)
    clear hb HT f1 l1 HN HA
    go_wp2
    go_ret
    exact HN2.out
  ·have hl0 : (lo != 0) = true := bne_iff_ne.2 hl
   have HN := Lib.hid (HNO.out fun k => hl (k.2 h0).1)
   clear h0 hl HYES HNO
   go_enter Tryz.func87, Tryz.ntmps87
   go_wp2_with fail
   refine HT.out.mono ?_
   rintro e w1 ⟨rfl, hb⟩
   have HN2 := Lib.hid (HN.out w1 hb)
   clear hb HT f1 l1 HN HA
   go_wp2
   go_ret
   exact HN2.out
 ·have hd : (t == 0) = false := beq_eq_false_iff_ne.2 h0
  by_cases hg0 : hi < lo
  ·have hg : decide (hi < lo) = true := decide_eq_true hg0
   have HN := Lib.hid (HNO.out fun k => by omega)
   clear h0 hg0 HYES HNO
   go_enter Tryz.func87, Tryz.ntmps87
   go_wp2_with fail
   refine HT.out.mono ?_
   rintro e w1 ⟨rfl, hb⟩
   have HN2 := Lib.hid (HN.out w1 hb)
   clear hb HT f1 l1 HN HA
   go_wp2
   go_ret
   exact HN2.out
  ·have hg : decide (hi < lo) = false := decide_eq_false hg0
   have HY := Lib.hid (HYES.out ⟨by omega, fun k => absurd k h0⟩)
   clear h0 hg0 HYES HNO
   go_enter Tryz.func87, Tryz.ntmps87
   go_wp2_with fail
   refine HT.out.mono ?_
   rintro e w1 ⟨rfl, hb⟩
   have f2 := (HA.out w1 hb).seven
   have l2 := (HA.out w1 hb).lt
   have HY2 := Lib.hid (HY.out w1 hb)
   clear hb HT f1 l1 HY HA
   go_wp2
   go_ret
   exact HY2.out
def quantL (part : Nat → Int) (stand : Int → Int) (s : Bool) (most : Int) (l : List (Int × Int)) (lo hi a d : Int) : Int × Int :=
 if placeE a d (sumP l) = 0 then
  match docFind13 part stand s most l (placeT a d (sumP l)) with
  | none => (0, 9)
  | some x => (min (max x lo) hi, 0)
 else (0, placeE a d (sumP l))
theorem placeT_lt {a d n : Int} (ha : 0 ≤ a) (hd : 0 ≤ d) (hn : 0 ≤ n) (hn' : n ≤ 9223372036854775807) (hE : placeE a d n = 0) : 0 ≤ placeT a d n ∧ placeT a d n < 18446744073709551616 := by
 have hg : goodF a d = true ∧ n ≠ 0 := by
  unfold placeE at hE
  split at hE
  ·rename_i h1
   split at hE
   ·omega
   ·rename_i h2
    exact ⟨h1, h2⟩
  ·omega
 have := placeT_is ha (show 0 < n by have := hg.2; omega) (by omega) hg.1
 have h1 := this.one
 have h2 := this.le
 omega
set_option maxRecDepth 100000 in
set_option maxHeartbeats 2000000 in
theorem lsquant_k (b : Nat) (S : List Nat) (part : Nat → Int) (rep stand : Int → Int) (u v : Int) (s : Bool) (most : Int) (l : List (Int × Int)) (lo hi a d : Int) (w : World) (h : Ls w b S part rep u v s most l lo hi) (hp : PS part rep stand) (hv : VOk l) (h1 : 0 ≤ a) (h2 : a < 18446744073709551616) (h3 : 0 ≤ d) (h4 : d < 18446744073709551616) :
  Calls Tryz.prog 182 #[.pointer (some ⟨b, 0, none⟩), .agg #[.int .u64 a, .int .u64 d]] w fun e w' => e = .returned (.tuple #[.int .i64 (quantL part stand s most l lo hi a d).1, .int .i64 (quantL part stand s most l lo hi a d).2]) ∧ Below w.heap.size w w' := by
 obtain ⟨bb, B, rfl, h⟩ := h
 have hs0 := hv.sum0
 have hs := hv.sum
 have HTV := Lib.hid fun W (hb : Below w.heap.size w W) => btot_v bb B false part rep s most l W (h.bn.below hb) hv
 have HC := Lib.hid fun w' => place_any a d (sumP l) w' h1 h2 h3 h4 hs0 (by omega)
 have HF : Hid (placeE a d (sumP l) = 0 → ∀ W, Below w.heap.size w W → Calls Tryz.prog 187 #[.pointer (some ⟨bb, 0, none⟩), .int .u64 (placeT a d (sumP l))] W fun e w' => e = .returned (optI (docFind13 part stand s most l (placeT a d (sumP l)))) ∧ Below W.heap.size W w') := fun hE W hb =>
  bfind_v bb B false part rep stand s most _ l W (h.bn.below hb) hp hv (placeT_lt h1 h3 hs0 hs hE)
 have HQ : Hid ((placeE a d (sumP l) = 0 → quantL part stand s most l lo hi a d = match docFind13 part stand s most l (placeT a d (sumP l)) with | none => (0, 9) | some x => (min (max x lo) hi, 0)) ∧ (placeE a d (sumP l) ≠ 0 → quantL part stand s most l lo hi a d = (0, placeE a d (sumP l)))) :=
  ⟨fun e => by unfold quantL; rw [if_pos e], fun e => by unfold quantL; rw [if_neg e]⟩
 obtain ⟨qp, hqp⟩ : ∃ q, quantL part stand s most l lo hi a d = q := ⟨_, rfl⟩
 rw [hqp] at HQ ⊢
 obtain ⟨o, ho⟩ : ∃ o, docFind13 part stand s most l (placeT a d (sumP l)) = o := ⟨_, rfl⟩
 rw [ho] at HF HQ
 obtain ⟨E, hE⟩ : ∃ E, placeE a d (sumP l) = E := ⟨_, rfl⟩
 obtain ⟨t, ht⟩ : ∃ t, placeT a d (sumP l) = t := ⟨_, rfl⟩
 rw [hE] at HC HF HQ
 rw [ht] at HC HF
 obtain ⟨n, hn⟩ : ∃ n, sumP l = n := ⟨_, rfl⟩
 rw [hn] at HTV HC
 have HA := Lib.hid fun W (hb : Below w.heap.size w W) => (h.below hb).at'
 clear h hp hv h1 h2 h3 h4 hs0 hs hqp ho hE ht hn
 have hb0 : Below w.heap.size w (w.alloc (.cells #[.int .u64 a, .int .u64 d] 25)) := (Below.refl _ _).alloc (Nat.le_refl _) _
 have r1 := At.new w #[.int .u64 a, .int .u64 d] 25
 have s1 := HA.out _ hb0
 go_enter Tryz.func182, Tryz.ntmps182
 go_wp2
 obtain ⟨W1, hW1⟩ : ∃ W, w.alloc (.cells #[.int .u64 a, .int .u64 d] 25) = W := ⟨_, rfl⟩
 have HT1 := Lib.hid fun W (hb : Below W1.heap.size W1 W) => HTV.out W (by rw [hW1] at hb0; exact keep1 hb0 hb)
 rw [hW1] at hb0 r1 s1
 try rw [hW1]
 clear hW1
 have hfar1 := fun x : Far W1 => (x.at s1).seven
 have hfar2 := fun x : Far W1 => (x.at r1).two
 refine wp_region_far (by kernel_rfl) (by kernel_rfl) ?_
 repeat (first | go_big_quiet_skip | (go_big_quiet_want; go_big_quiet_op; first | go_big_quiet_on | (apply Exists.intro; refine ⟨fun _ => ?_, ?_⟩; (focus (first | (with_reducible refine far_of (HT1.out _ (Far.below _))) | (with_reducible refine far_of (HC.out _)))); go_big_quiet_on)))
 refine wpQuiet_nil ?_
 rintro _ ⟨xq, rfl⟩
 clear hfar1 hfar2
 have HB2 : Hid (Below w.heap.size w xq.far) := keep1 hb0 xq.below
 obtain ⟨W2, hW2⟩ : ∃ W, xq.far = W := ⟨_, rfl⟩
 rw [hW2] at HB2 ⊢
 clear hW2 s1 r1 hb0 HT1 HTV HC
 by_cases hE : E = 0
 ·have HQ1 := Lib.hid (HQ.out.1 hE)
  have HF1 := Lib.hid (HF.out hE)
  subst hE
  have s2 := HA.out W2 HB2.out
  have f2 := s2.seven
  have l2 := s2.lt
  clear HQ HF s2
  go_wp2_with fail
  refine (HF1.out W2 HB2.out).mono ?_
  rintro e w3 ⟨rfl, hb⟩
  have HB3 := Lib.hid (keep1 HB2.out hb)
  clear hb HF1 HB2 f2 l2
  cases o with
  | none =>
   rw [show optI none = .tuple #[.int .i64 0, .bool false] from rfl]
   clear HA
   go_wp2
   go_ret2
   exact ⟨by rw [HQ1.out]; rfl, HB3.out⟩
  | some x =>
   rw [show optI (some x) = .tuple #[.int .i64 x, .bool true] from rfl]
   have s3 := HA.out w3 HB3.out
   clear HA
   go_wp2
   have hfar1 := fun x : Far w3 => (x.at s3).seven
   refine wp_region_far (by kernel_rfl) (by kernel_rfl) ?_
   repeat (first | go_big_quiet_skip | (go_big_quiet_want; go_big_quiet_op; first | go_big_quiet_on | (apply Exists.intro; refine ⟨fun _ => ?_, ?_⟩; (focus (first | (fail))); go_big_quiet_on)))
   refine wpQuiet_nil ?_
   rintro _ ⟨xq, rfl⟩
   clear hfar1
   have hb2 := xq.below
   clear s3
   go_wp2
   go_ret2
   exact ⟨by rw [HQ1.out]; rfl, keep1 HB3.out hb2⟩
 ·have HQ1 := Lib.hid (HQ.out.2 hE)
  have hd : (E != 0) = true := bne_iff_ne.2 hE
  clear hE HQ HF HA
  go_wp2
  go_ret2
  exact ⟨by rw [HQ1.out]; rfl, HB2.out⟩
end Go.Proofs.YtlbnlmhcpephbaaGreatDoor

namespace Go.Proofs.YtlbnlmhcpephbaaGreatDoor
open Go.RowKit
def SkW (o : Nat) (cs : Array Value) (W : World) : Prop := At W o cs 154
theorem SkW.at {o : Nat} {cs : Array Value} {W : World} (h : SkW o cs W) : At W o cs 154 := h
def SkW2 (b o : Nat) (cs cs' : Array Value) (W : World) : Prop := At W b cs 154 ∧ At W o cs' 154
theorem SkW2.at {b o : Nat} {cs cs' : Array Value} {W : World} (h : SkW2 b o cs cs' W) : At W b cs 154 ∧ At W o cs' 154 := h
set_option maxRecDepth 100000 in
set_option maxHeartbeats 4000000 in
theorem lsjoin_v (b o : Nat) (S T : List Nat) (part : Nat → Int) (rep : Int → Int) (u v : Int) (s : Bool) (most : Int) (l l' : List (Int × Int)) (w : World) (h : LsV w b S part rep u v s most l) (h' : LsV w o T part rep u v s most l') (hap : Apart S T) (hv : VOk l) (hv' : VOk l') (hs : sumP l + sumP l' ≤ 9223372036854775807) :
  Calls Tryz.prog 198 #[.pointer (some ⟨b, 0, none⟩), .pointer (some ⟨o, 0, none⟩)] w fun e w' => e = .returned (.int .i64 0) ∧ LpvR b S part rep u v s most (l ++ l') w w' ∧ LsV w' o T part rep u v s most l' := by
 have HSV := Lib.hid h
 have HTV := Lib.hid h'
 obtain ⟨bb, B, rfl, h⟩ := h
 obtain ⟨ob, T', rfl, h'⟩ := h'
 have HT := Lib.hid fun W (hb : Below w.heap.size w W) => btot_v ob T' false part rep s most l' W (h'.bn.below hb) hv'
 have HH := Lib.hid fun W (hb : Below w.heap.size w W) => And.intro (h.below hb) (h'.below hb)
 have HBO : Hid (b ≠ o ∧ b ∉ T' ∧ o ∉ B ∧ Apart B T') := ⟨fun e => hap b (by simp) (by simp [e]), fun hm => hap b (by simp) (by simp [hm]), fun hm => hap o (by simp [hm]) (by simp), fun j hj hm => hap j (by simp [hj]) (by simp [hm])⟩
 have HEN := Lib.hid fun (lo hi : Int) W k => lsend_any b bb B part rep u v s most l (eLow l) (eHigh l) lo hi W k hv
 have HMG := Lib.hid fun W (k : BnV W bb B false part rep s most l) (k' : BnV W ob T' false part rep s most l') => bmerge_v bb ob B T' false false part rep rep s most l l' W k k' HBO.out.2.2.2 hv hv' hs
 have HEA : Hid (l' ≠ [] → eLow (l ++ l') = (if sumP l = 0 then eLow l' else min (eLow l) (eLow l')) ∧ eHigh (l ++ l') = (if sumP l = 0 then eHigh l' else max (eHigh l) (eHigh l'))) := fun hn => eLow_app hv hn
 have HE0 := Lib.hid hv'.empty
 have s1 := h.at'
 have s2 := h'.at'
 have hcs := fun w => conf_same u v (sideZ s) most w
 obtain ⟨z, hz⟩ : ∃ z, sideZ s = z := ⟨_, rfl⟩
 have HZZ := Lib.hid hz
 rw [hz] at s1 s2 hcs
 obtain ⟨t, ht⟩ : ∃ t, sumP l' = t := ⟨_, rfl⟩
 rw [ht] at HT HE0
 have hA1 := Lib.hid fun W (hb : Below w.heap.size w W) => (s1.below hb)
 have hA2 := Lib.hid fun W (hb : Below w.heap.size w W) => (s2.below hb)
 clear h h' hap hv hv' hs hz ht
 go_enter Tryz.func198, Tryz.ntmps198
 go_wp2
 have hfar1 := fun x : Far w => (x.at s1).seven
 have hfar2 := fun x : Far w => (x.at s2).seven
 refine wp_region_far (by kernel_rfl) (by kernel_rfl) ?_
 repeat (first | go_big_quiet_skip | (go_big_quiet_want; go_big_quiet_op; first | go_big_quiet_on | (apply Exists.intro; refine ⟨fun _ => ?_, ?_⟩; (focus (first | (fail))); go_big_quiet_on)))
 refine wpQuiet_nil ?_
 rintro _ ⟨xq, rfl⟩
 clear hfar1 hfar2
 have HB1 : Hid (Below w.heap.size w xq.far) := xq.below
 obtain ⟨W1, hW1⟩ : ∃ W, xq.far = W := ⟨_, rfl⟩
 rw [hW1] at HB1 ⊢
 clear hW1 s1 s2
 have f1 := (hA2.out W1 HB1.out).seven
 have l1 := (hA2.out W1 HB1.out).lt
 go_wp2_with fail
 refine (HT.out W1 HB1.out).mono ?_
 rintro e w2 ⟨rfl, hb⟩
 have HB2 := Lib.hid (keep1 HB1.out hb)
 clear hb HT HB1 f1 l1
 by_cases h0 : t = 0
 ·have hl : l' = [] := HE0.out.1 h0
  subst hl
  have hd : (t == 0) = true := beq_iff_eq.2 h0
  have HF : Hid (LpvR b (b :: B) part rep u v s most (l ++ []) w w2 ∧ LsV w2 o (o :: T') part rep u v s most []) := ⟨by rw [List.append_nil]; exact LpvR.same HSV.out HB2.out, HTV.out.below HB2.out⟩
  clear h0 HEN HMG HEA HE0 HH hA1 hA2 hcs HSV HTV
  go_wp2
  go_ret
  exact ⟨rfl, HF.out⟩
 have hl : l' ≠ [] := fun e => h0 (HE0.out.2 e)
 have hd : (t == 0) = false := beq_eq_false_iff_ne.2 h0
 have HEL := Lib.hid (HEA.out hl)
 clear hl h0 HEA HE0
 have s3 := hA1.out w2 HB2.out
 go_wp2
 have hfar1 := fun x : Far w2 => (x.at s3).seven
 refine wp_region_far (by kernel_rfl) (by kernel_rfl) ?_
 repeat (first | go_big_quiet_skip | (go_big_quiet_want; go_big_quiet_op; first | go_big_quiet_on | (apply Exists.intro; refine ⟨fun _ => ?_, ?_⟩; (focus (first | (fail))); go_big_quiet_on)))
 refine wpQuiet_nil ?_
 rintro _ ⟨xq, rfl⟩
 clear hfar1
 have HB3 : Hid (Below w.heap.size w xq.far) := keep1 HB2.out xq.below
 obtain ⟨W3, hW3⟩ : ∃ W, xq.far = W := ⟨_, rfl⟩
 rw [hW3] at HB3 ⊢
 clear hW3 s3 HB2 hd hcs
 go_wp2
 have HB4 : Hid (Below w.heap.size w W3.drew) := keep1 HB3.out (Below.refl _ _).drew
 obtain ⟨W4, hW4⟩ : ∃ W, W3.drew = W := ⟨_, rfl⟩
 rw [hW4] at HB4
 have s4 := hA2.out W4 HB4.out
 obtain ⟨lo, hlo⟩ : ∃ z, eLow l' = z := ⟨_, rfl⟩
 obtain ⟨hi, hhi⟩ : ∃ z, eHigh l' = z := ⟨_, rfl⟩
 have HLO := Lib.hid (And.intro hlo hhi)
 rw [hlo, hhi] at s4 HEL
 clear hlo hhi
 haveI hne : Nonempty (Held (SkW o #[.pointer (some ⟨ob, 0, none⟩), .int .u64 u, .int .u64 v, .int .i64 z, .int .i64 most, .int .i64 lo, .int .i64 hi])) := ⟨⟨W4, s4⟩⟩
 have hfar := fun x : Held (SkW o #[.pointer (some ⟨ob, 0, none⟩), .int .u64 u, .int .u64 v, .int .i64 z, .int .i64 most, .int .i64 lo, .int .i64 hi]) => x.held.at.seven
 refine wp_region_noPanic ?_
 refine wp_region_held_drew (S := HeldS (SkW o #[.pointer (some ⟨ob, 0, none⟩), .int .u64 u, .int .u64 v, .int .i64 z, .int .i64 most, .int .i64 lo, .int .i64 hi])) (by kernel_rfl) (by rw [hW4]; exact HeldS.mk' s4) (fun hHeld => ?_)
 rw [hW4] at hHeld ⊢
 clear hW4
 refine wpAnyH_run0 [true, true, true, true, true, true, true, true, true] 1 (by kernel_rfl) (by kernel_rfl) (fun _ _ _ _ h => h) (by kernel_rfl) hHeld ?_
 simp only [runOps_true, runOps_false, runOps_nil]
 repeat (first | go_big_quiet_skip | (go_big_quiet_want; go_big_quiet_op; go_big_quiet_on))
 refine wpQuiet_nil ?_
 refine wpAnyH_ready (rs := [9]) (by kernel_rfl) (by simp) ?_
 refine AllReadyH.cons rfl (fun K hK => ?_) AllReadyH.nil
 go_simp
 go_wp2_with (go_at_call 184; refine (HEN.out lo hi W4 (HH.out W4 HB4.out).1).mono ?_; rintro e w5 ⟨rfl, hL, hF⟩)
 refine hK.out _ _ ?_ (fun hHeld => ?_)
 clear hK K
 ·exact HeldS.mk' (hF.at s4 (by simp; exact fun e => HBO.out.1 e.symm))
 have s5 : At w5 o #[.pointer (some ⟨ob, 0, none⟩), .int .u64 u, .int .u64 v, .int .i64 z, .int .i64 most, .int .i64 lo, .int .i64 hi] 154 := hF.at s4 (by simp; exact fun e => HBO.out.1 e.symm)
 have HO5 := Lib.hid ((HH.out W4 HB4.out).2.frame hF (by simp; exact fun e => HBO.out.1 e.symm) (fun j hj hn => HBO.out.2.1 (by simp at hn; rwa [← hn])))
 have HL5 := Lib.hid hL
 have HF5 : Hid (Frame [b] w w5) := (Frame.of_below HB4.out).trans hF
 clear hL hF HEN HH HB4 HB3 s4
 refine wpAnyH_done (by kernel_rfl) ?_ _
 refine NoPanic.normal ?_
 clear hfar hne hHeld
 rw [← HEL.out.1, ← HEL.out.2] at HL5
 obtain ⟨ml, hml⟩ : ∃ z, eLow (l ++ l') = z := ⟨_, rfl⟩
 obtain ⟨mh, hmh⟩ : ∃ z, eHigh (l ++ l') = z := ⟨_, rfl⟩
 have HMM := Lib.hid (And.intro hml hmh)
 rw [hml, hmh] at HL5
 clear HEL hml hmh
 have b5 := HL5.out.at'
 rw [HZZ.out] at b5
 go_wp2
 have b6 := b5.drew
 have s6 := s5.drew
 have HL6 := Lib.hid (HL5.out.below (Below.refl _ _).drew)
 have HO6 := Lib.hid (HO5.out.below (Below.refl _ _).drew)
 have HF6 : Hid (Frame [b] w w5.drew) := HF5.out.drew
 obtain ⟨W6, hW6⟩ : ∃ W, w5.drew = W := ⟨_, rfl⟩
 rw [hW6] at b6 s6 HL6 HO6 HF6
 have h6 : SkW2 b o #[.pointer (some ⟨bb, 0, none⟩), .int .u64 u, .int .u64 v, .int .i64 z, .int .i64 most, .int .i64 ml, .int .i64 mh] #[.pointer (some ⟨ob, 0, none⟩), .int .u64 u, .int .u64 v, .int .i64 z, .int .i64 most, .int .i64 lo, .int .i64 hi] W6 := ⟨b6, s6⟩
 haveI hne : Nonempty (Held (SkW2 b o #[.pointer (some ⟨bb, 0, none⟩), .int .u64 u, .int .u64 v, .int .i64 z, .int .i64 most, .int .i64 ml, .int .i64 mh] #[.pointer (some ⟨ob, 0, none⟩), .int .u64 u, .int .u64 v, .int .i64 z, .int .i64 most, .int .i64 lo, .int .i64 hi])) := ⟨⟨W6, h6⟩⟩
 have hfar1 := fun x : Held (SkW2 b o #[.pointer (some ⟨bb, 0, none⟩), .int .u64 u, .int .u64 v, .int .i64 z, .int .i64 most, .int .i64 ml, .int .i64 mh] #[.pointer (some ⟨ob, 0, none⟩), .int .u64 u, .int .u64 v, .int .i64 z, .int .i64 most, .int .i64 lo, .int .i64 hi]) => x.held.at.1.seven
 have hfar2 := fun x : Held (SkW2 b o #[.pointer (some ⟨bb, 0, none⟩), .int .u64 u, .int .u64 v, .int .i64 z, .int .i64 most, .int .i64 ml, .int .i64 mh] #[.pointer (some ⟨ob, 0, none⟩), .int .u64 u, .int .u64 v, .int .i64 z, .int .i64 most, .int .i64 lo, .int .i64 hi]) => x.held.at.2.seven
 refine wp_region_noPanic ?_
 refine wp_region_held_drew (S := HeldS (SkW2 b o #[.pointer (some ⟨bb, 0, none⟩), .int .u64 u, .int .u64 v, .int .i64 z, .int .i64 most, .int .i64 ml, .int .i64 mh] #[.pointer (some ⟨ob, 0, none⟩), .int .u64 u, .int .u64 v, .int .i64 z, .int .i64 most, .int .i64 lo, .int .i64 hi])) (by kernel_rfl) (by rw [hW6]; exact HeldS.mk' h6) (fun hHeld => ?_)
 rw [hW6] at hHeld ⊢
 clear hW6 b5 s5 HL5 HO5 HF5
 refine wpAnyH_run0 [true, true, true, true, true, true, true, true] 2 (by kernel_rfl) (by kernel_rfl) (fun _ _ _ _ h => h) (by kernel_rfl) hHeld ?_
 simp only [runOps_true, runOps_false, runOps_nil]
 repeat (first | go_big_quiet_skip | (go_big_quiet_want; go_big_quiet_op; go_big_quiet_on))
 refine wpQuiet_nil ?_
 refine wpAnyH_ready (rs := [8]) (by kernel_rfl) (by simp) ?_
 refine AllReadyH.cons rfl (fun K hK => ?_) AllReadyH.nil
 go_simp
 go_wp2_with (go_at_call 205; refine (HMG.out W6 HL6.out.bn HO6.out.bn).mono ?_; rintro e w7 ⟨rfl, ⟨B', hg, hX, hF⟩, hO⟩)
 refine hK.out _ _ ?_ (fun hHeld => ?_)
 clear hK K
 ·exact HeldS.mk' ⟨hF.at b6 HL6.out.nb, hF.at s6 HBO.out.2.2.1⟩
 have HFIN : Hid (LpvR b (b :: B) part rep u v s most (l ++ l') w w7 ∧ LsV w7 o (o :: T') part rep u v s most l') := by
  refine ⟨⟨b :: B', grown_cons hg HF6.out.size, ⟨bb, B', rfl, ?_⟩, (HF6.out.mono (by simp)).trans (hF.mono fun j hj => by simp [hj])⟩, ⟨ob, T', rfl, ?_⟩⟩
  ·rw [HMM.out.1, HMM.out.2]
   exact HL6.out.binned hg hX hF
  ·exact ⟨hF.at HO6.out.at' HBO.out.2.2.1, hO, HO6.out.nb⟩
 clear hg hX hF hO HMG HL6 HO6 HF6 b6 s6 h6
 refine wpAnyH_run0 [false, false, false, false, false, false, false, false, false, true] 0 (by kernel_rfl) (by kernel_rfl) (fun _ _ _ _ h => h) (by kernel_rfl) hHeld ?_
 simp only [runOps_true, runOps_false, runOps_nil]
 repeat (first | go_big_quiet_skip | (go_big_quiet_want; go_big_quiet_op; go_big_quiet_on))
 refine wpQuiet_nil ?_
 refine wpAnyH_done (by kernel_rfl) ?_ _
 refine NoPanic.normal ?_
 clear hfar1 hfar2 hne hHeld hA1 hA2
 go_wp2
 go_ret
 exact ⟨rfl, HFIN.out⟩
end Go.Proofs.YtlbnlmhcpephbaaGreatDoor

namespace Go.Proofs.YtlbnlmhcpephbaaGreatDoor
open Go.RowKit
def quantD (stand : Int → Int) (l : List (Int × Int)) (a d : Int) : Int := if placeE a d (sumP l) = 0 then min (max (stand ((exactV l (placeT a d (sumP l))).getD 0)) (eLow l)) (eHigh l) else 0
def likeLo (g : Nat) (x : Int) : Int := if x = 0 then 0 else if 0 < x then (loN g x.natAbs : Int) else -(hiN g x.natAbs : Int)
def likeHi (g : Nat) (x : Int) : Int := if x = 0 then 0 else if 0 < x then min (hiN g x.natAbs : Int) 9223372036854775807 else -(loN g x.natAbs : Int)
end Go.Proofs.YtlbnlmhcpephbaaGreatDoor
