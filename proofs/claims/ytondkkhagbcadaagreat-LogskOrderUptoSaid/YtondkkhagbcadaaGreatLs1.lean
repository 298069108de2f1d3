/- Contracts of package logsk: New, Bins, Config, Ends. -/
import Derived.Test.YtondkkhagbcadaaGreatProg
import Derived.Test.YtondkkhagbcadaaGreatEmpty13
import Derived.Test.YtondkkhagbcadaaGreatVEnds
namespace Go.Proofs.YtondkkhagbcadaaGreat
open Go.RowKit

theorem At.seven {w : World} {b : Nat} {T : TypeId} {v0 v1 v2 v3 v4 v5 v6 : Value} (h : At w b #[v0, v1, v2, v3, v4, v5, v6] T) : (w.cell? ⟨b, 0, none⟩ = some v0 ∧ w.cell? ⟨b, 1, none⟩ = some v1 ∧ w.cell? ⟨b, 2, none⟩ = some v2 ∧ w.cell? ⟨b, 3, none⟩ = some v3 ∧ w.cell? ⟨b, 4, none⟩ = some v4 ∧ w.cell? ⟨b, 5, none⟩ = some v5 ∧ w.cell? ⟨b, 6, none⟩ = some v6) ∧
    w.frozen? ⟨b, 0, none⟩ = false ∧ w.frozen? ⟨b, 1, none⟩ = false ∧ w.frozen? ⟨b, 2, none⟩ = false ∧ w.frozen? ⟨b, 3, none⟩ = false ∧ w.frozen? ⟨b, 4, none⟩ = false ∧ w.frozen? ⟨b, 5, none⟩ = false ∧ w.frozen? ⟨b, 6, none⟩ = false :=
  ⟨⟨h.cell rfl, h.cell rfl, h.cell rfl, h.cell rfl, h.cell rfl, h.cell rfl, h.cell rfl⟩, h.frozen 0, h.frozen 1, h.frozen 2, h.frozen 3, h.frozen 4, h.frozen 5, h.frozen 6⟩
/-- A sketch: its block, its bins and their blocks. -/
structure LsB (w : World) (b bb : Nat) (B : List Nat) (part : Nat → Int) (rep : Int → Int) (u v : Int) (s : Bool) (most : Int) (l : List (Int × Int)) (lo hi : Int) : Prop where
  at' : At w b #[.pointer (some ⟨bb, 0, none⟩), .int .u64 u, .int .u64 v, .int .i64 (sideZ s), .int .i64 most, .int .i64 lo, .int .i64 hi] 86
  bn : BnV w bb B false part rep s most l
  nb : b ∉ B
/-- The same, and all its blocks. -/
def Ls (w : World) (b : Nat) (S : List Nat) (part : Nat → Int) (rep : Int → Int) (u v : Int) (s : Bool) (most : Int) (l : List (Int × Int)) (lo hi : Int) : Prop := ∃ bb B, S = b :: B ∧ LsB w b bb B part rep u v s most l lo hi
/-- A sketch into which so many values were put. -/
def LsV (w : World) (b : Nat) (S : List Nat) (part : Nat → Int) (rep : Int → Int) (u v : Int) (s : Bool) (most : Int) (l : List (Int × Int)) : Prop := Ls w b S part rep u v s most l (eLow l) (eHigh l)
section
variable {w w' : World} {b bb : Nat} {B S T : List Nat} {part : Nat → Int} {rep : Int → Int} {u v : Int} {s : Bool} {most lo hi lo' hi' : Int} {l : List (Int × Int)}
theorem LsB.frame (h : LsB w b bb B part rep u v s most l lo hi) (hf : Frame T w w') (hb : b ∉ T) (hn : Apart B T) : LsB w' b bb B part rep u v s most l lo hi := ⟨hf.at h.at' hb, h.bn.frame hf hn, h.nb⟩
theorem LsB.below (h : LsB w b bb B part rep u v s most l lo hi) (hb : Below w.heap.size w w') : LsB w' b bb B part rep u v s most l lo hi := h.frame (T := []) (Frame.of_below hb) (by simp) (fun _ _ => by simp)
theorem Ls.frame (h : Ls w b S part rep u v s most l lo hi) (hf : Frame T w w') (hn : Apart S T) : Ls w' b S part rep u v s most l lo hi := by
  obtain ⟨bb, B, rfl, h⟩ := h
  exact ⟨bb, B, rfl, h.frame hf (hn b (by simp)) fun j hj => hn j (by simp [hj])⟩
theorem Ls.below (h : Ls w b S part rep u v s most l lo hi) (hb : Below w.heap.size w w') : Ls w' b S part rep u v s most l lo hi := h.frame (T := []) (Frame.of_below hb) (fun _ _ => by simp)
theorem Ls.lt (h : Ls w b S part rep u v s most l lo hi) : ∀ j ∈ S, j < w.heap.size := by
  obtain ⟨bb, B, rfl, h⟩ := h
  intro j hj
  rcases List.mem_cons.1 hj with rfl | hj
  · exact h.at'.lt
  · exact h.bn.lt j hj
theorem Ls.mem (h : Ls w b S part rep u v s most l lo hi) : b ∈ S := by
  obtain ⟨bb, B, rfl, h⟩ := h
  simp
theorem LsV.frame (h : LsV w b S part rep u v s most l) (hf : Frame T w w') (hn : Apart S T) : LsV w' b S part rep u v s most l := Ls.frame h hf hn
theorem LsV.below (h : LsV w b S part rep u v s most l) (hb : Below w.heap.size w w') : LsV w' b S part rep u v s most l := Ls.below h hb
theorem LsV.lt (h : LsV w b S part rep u v s most l) : ∀ j ∈ S, j < w.heap.size := Ls.lt h
theorem LsV.m14 (h : LsV w b S part rep u v s most l) : 1 ≤ most ∧ most ≤ 4096 := by
  obtain ⟨bb, B, rfl, h⟩ := h
  exact h.bn.m14
theorem LsB.set (h : LsB w b bb B part rep u v s most l lo hi) (i : Nat) (x : Value)
    (h1 : At (w.setCell ⟨b, i, none⟩ x) b #[.pointer (some ⟨bb, 0, none⟩), .int .u64 u, .int .u64 v, .int .i64 (sideZ s), .int .i64 most, .int .i64 lo', .int .i64 hi'] 86) : LsB (w.setCell ⟨b, i, none⟩ x) b bb B part rep u v s most l lo' hi' :=
  ⟨h1, h.bn.frame (Frame.set [b] w b i x (by simp)) (fun j hj hn => h.nb (by simp at hn; rwa [← hn])), h.nb⟩
end
/-! ## New. -/
theorem ls_new {w W : World} {b bb : Nat} {B : List Nat} {part : Nat → Int} {rep : Int → Int} {u v : Int} {s : Bool} {most : Int} (hb : Below w.heap.size w W) (hB : Within B w.heap.size W.heap.size) (hN : BnV W bb B false part rep s most []) :
    (∃ b S, Ending.returned (.tuple #[.pointer (some ⟨W.heap.size, 0, none⟩), .int .i64 0]) = .returned (.tuple #[.pointer (some ⟨b, 0, none⟩), .int .i64 0]) ∧ Within S w.heap.size (W.alloc (.cells #[.pointer (some ⟨bb, 0, none⟩), .int .u64 u, .int .u64 v, .int .i64 (sideZ s), .int .i64 most, .int .i64 0, .int .i64 0] 86)).heap.size ∧
      LsV (W.alloc (.cells #[.pointer (some ⟨bb, 0, none⟩), .int .u64 u, .int .u64 v, .int .i64 (sideZ s), .int .i64 most, .int .i64 0, .int .i64 0] 86)) b S part rep u v s most []) ∧
    Below w.heap.size w (W.alloc (.cells #[.pointer (some ⟨bb, 0, none⟩), .int .u64 u, .int .u64 v, .int .i64 (sideZ s), .int .i64 most, .int .i64 0, .int .i64 0] 86)) := by
  have ha := At.new W #[.pointer (some ⟨bb, 0, none⟩), .int .u64 u, .int .u64 v, .int .i64 (sideZ s), .int .i64 most, .int .i64 0, .int .i64 0] 86
  have hba : Below W.heap.size W (W.alloc (.cells #[.pointer (some ⟨bb, 0, none⟩), .int .u64 u, .int .u64 v, .int .i64 (sideZ s), .int .i64 most, .int .i64 0, .int .i64 0] 86)) := (Below.refl _ _).alloc (Nat.le_refl _) _
  generalize W.alloc (.cells #[.pointer (some ⟨bb, 0, none⟩), .int .u64 u, .int .u64 v, .int .i64 (sideZ s), .int .i64 most, .int .i64 0, .int .i64 0] 86) = W2 at ha hba ⊢
  have hz := hb.size
  have hz2 := hba.size
  have hl := ha.lt
  refine ⟨⟨W.heap.size, W.heap.size :: B, rfl, fun j hj => ?_, bb, B, rfl, ha, hN.below hba, fun hm => ?_⟩, keep1 hb hba⟩
  · rcases List.mem_cons.1 hj with rfl | hj
    · omega
    · have := hB j hj; omega
  · have := (hB _ hm).2; omega
set_option maxRecDepth 100000 in
set_option maxHeartbeats 2000000 in
theorem lsnew_yes (u v : Int) (part : Nat → Int) (rep stand : Int → Int) (s : Bool) (most : Int) (w : World) (hc : Cs u v 0 false part rep stand) (hm : 1 ≤ most ∧ most ≤ 4096) :
    Calls Tryz.prog 32 #[.agg #[.int .u64 u, .int .u64 v, .int .i64 (sideZ s), .int .i64 most]] w fun e w' => (∃ b S, e = .returned (.tuple #[.pointer (some ⟨b, 0, none⟩), .int .i64 0]) ∧ Within S w.heap.size w'.heap.size ∧ LsV w' b S part rep u v s most []) ∧ Below w.heap.size w w' := by
  have HN := Lib.hid fun (PB : List Nat) (pa : Nat) (part : Nat → Int) (rep : Int → Int) (W : World) (hp : PAt W false pa part rep PB) => bnew_any PB false pa part rep s most W hp hm.1 hm.2
  have HLN := Lib.hid fun (u v : Int) (bb : Nat) (B : List Nat) (part : Nat → Int) (rep : Int → Int) (W : World) (hb : Below w.heap.size w W) (hB : Within B w.heap.size W.heap.size) (hN : BnV W bb B false part rep s most []) => ls_new (u := u) (v := v) (b := 0) hb hB hN
  obtain ⟨z, hz⟩ : ∃ z, sideZ s = z := ⟨_, rfl⟩
  rw [hz] at HN HLN ⊢
  have hba : Below w.heap.size w (w.alloc (.cells #[.int .u64 u, .int .u64 v, .int .i64 z, .int .i64 most] 74)) := (Below.refl _ _).alloc (Nat.le_refl _) _
  have am : At (w.alloc (.cells #[.int .u64 u, .int .u64 v, .int .i64 z, .int .i64 most] 74)) w.heap.size #[.int .u64 u, .int .u64 v, .int .i64 z, .int .i64 most] 74 := At.new' _ _ _ rfl
  clear hz hm
  rcases hc with ⟨hk, _⟩ | ⟨_, _, un, vn, L, rfl, rfl, ht, rfl, rfl, _⟩
  · cases hk
  have HS := Lib.hid fun W => cnew_own un vn W ht.u0 ht.uv ht.v1
  have HT := Lib.hid ht
  clear ht
  go_enter Tryz.func32, Tryz.ntmps32
  go_wp2_with fail
  obtain ⟨W1, hW1⟩ : ∃ W, w.alloc (.cells #[.int .u64 un, .int .u64 vn, .int .i64 z, .int .i64 most] 74) = W := ⟨_, rfl⟩
  obtain ⟨rb, hrb⟩ : ∃ r, w.heap.size = r := ⟨_, rfl⟩
  rw [hW1] at hba am
  rw [hrb] at am
  simp only [hW1, hrb]
  clear hW1 hrb
  refine (HS.out W1).mono ?_
  rintro e w2 ⟨hR, hb⟩
  unfold NewN at hR
  rw [HT.out.h] at hR
  obtain ⟨pa, rfl, hTN⟩ := hR
  obtain ⟨PB, hP, hPG⟩ := pat_tab HT.out hTN
  have HB2 := Lib.hid (keep1 hba hb)
  have HP := Lib.hid hP
  have HPG : Hid (∀ j ∈ PB, w.heap.size ≤ j) := fun j hj => Nat.le_trans hba.size (hPG j hj)
  have a2 := am.below hb
  have HA2 := Lib.hid a2
  have f2 := a2.four
  have l2 := a2.lt
  clear hba hb am hTN hP hPG a2 HS
  go_wp2_with fail
  refine (HN.out PB pa _ _ w2 HP.out).mono ?_
  rintro e w3 ⟨⟨bb, S, rfl, hW, hN⟩, hb⟩
  have HF := Lib.hid (HLN.out un vn bb _ _ _ w3 (keep1 HB2.out hb) (bn_within HB2.out.size HPG.out hW hN) (BnV.new hN))
  have a3 := HA2.out.below hb
  have f3 := a3.four
  have l3 := a3.lt
  clear hW hN hb HB2 HP HPG HN f2 l2 HT HLN a3 HA2
  go_wp2
  go_ret2
  exact HF.out
set_option maxRecDepth 100000 in
set_option maxHeartbeats 2000000 in
theorem lsnew_side (u v : Int) (part : Nat → Int) (rep stand : Int → Int) (z most : Int) (w : World) (hc : Cs u v 0 false part rep stand) (hm : ¬ ((z = 0 ∨ z = 1) ∧ 1 ≤ most ∧ most ≤ 4096)) :
    Calls Tryz.prog 32 #[.agg #[.int .u64 u, .int .u64 v, .int .i64 z, .int .i64 most]] w fun e w' => e = .returned (.tuple #[.pointer none, .int .i64 1]) ∧ Below w.heap.size w w' := by
  have HN : Hid (∀ (pa : Nat) W, Calls Tryz.prog 51 #[.iface (pKnd false).T (.pointer (some ⟨pa, 0, none⟩)), .int .i64 z, .int .i64 most] W fun e w' => e = .returned (.tuple #[.pointer none, .int .i64 1]) ∧ W = w') := fun pa W => by
    by_cases hs : z = 0 ∨ z = 1
    · obtain ⟨s, rfl⟩ : ∃ s, sideZ s = z := by
        rcases hs with h | h
        · exact ⟨true, h.symm⟩
        · exact ⟨false, h.symm⟩
      exact bnew_bad false pa s most W (by omega)
    · exact bnew_side false pa z most W (by omega)
  have hba : Below w.heap.size w (w.alloc (.cells #[.int .u64 u, .int .u64 v, .int .i64 z, .int .i64 most] 74)) := (Below.refl _ _).alloc (Nat.le_refl _) _
  have am : At (w.alloc (.cells #[.int .u64 u, .int .u64 v, .int .i64 z, .int .i64 most] 74)) w.heap.size #[.int .u64 u, .int .u64 v, .int .i64 z, .int .i64 most] 74 := At.new' _ _ _ rfl
  clear hm
  rcases hc with ⟨hk, _⟩ | ⟨_, _, un, vn, L, rfl, rfl, ht, rfl, rfl, _⟩
  · cases hk
  have HS := Lib.hid fun W => cnew_own un vn W ht.u0 ht.uv ht.v1
  have HT := Lib.hid ht
  clear ht
  go_enter Tryz.func32, Tryz.ntmps32
  go_wp2_with fail
  obtain ⟨W1, hW1⟩ : ∃ W, w.alloc (.cells #[.int .u64 un, .int .u64 vn, .int .i64 z, .int .i64 most] 74) = W := ⟨_, rfl⟩
  obtain ⟨rb, hrb⟩ : ∃ r, w.heap.size = r := ⟨_, rfl⟩
  rw [hW1] at hba am
  rw [hrb] at am
  simp only [hW1, hrb]
  clear hW1 hrb
  refine (HS.out W1).mono ?_
  rintro e w2 ⟨hR, hb⟩
  unfold NewN at hR
  rw [HT.out.h] at hR
  obtain ⟨pa, rfl, hTN⟩ := hR
  have HB2 := Lib.hid (keep1 hba hb)
  have a2 := am.below hb
  have f2 := a2.four
  have l2 := a2.lt
  clear hba hb am hTN a2 HS
  go_wp2_with fail
  refine (HN.out pa w2).mono ?_
  rintro e w3 ⟨rfl, rfl⟩
  clear HN f2 l2 HT
  go_wp2
  go_ret2
  exact ⟨rfl, HB2.out⟩
set_option maxRecDepth 100000 in
set_option maxHeartbeats 2000000 in
theorem lsnew_no (u v z most : Int) (w : World) (h1 : 0 ≤ u) (h2 : u < 18446744073709551616) (h3 : 0 ≤ v) (h4 : v < 18446744073709551616) (hc : CsNo u v 0) :
    Calls Tryz.prog 32 #[.agg #[.int .u64 u, .int .u64 v, .int .i64 z, .int .i64 most]] w fun e w' => (∃ f, e = .returned (.tuple #[.pointer none, .int .i64 f]) ∧ (f = 1 ∨ f = 6) ∧ (goodC u v = false → f = 1)) ∧ Below w.heap.size w w' := by
  have HC : Hid (∃ f : Int, ((f = 1 ∨ f = 6) ∧ (goodC u v = false → f = 1)) ∧ ∀ W, Calls Tryz.prog 50 #[.agg #[.int .u64 u, .int .u64 v]] W fun e w' => e = .returned (.tuple #[.pointer none, .int .i64 f]) ∧ Below W.heap.size W w') := by
    rcases hc with ⟨_, hg | ⟨un, vn, rfl, rfl, g1, g2, g3, g4⟩⟩
    · exact ⟨1, ⟨.inl rfl, fun _ => rfl⟩, fun W => cnew_bad u v W h1 h2 h3 h4 hg⟩
    · refine ⟨6, ⟨.inr rfl, fun hg => ?_⟩, fun W => (cnew_own un vn W g1 g2 g3).mono fun e w' h => ⟨?_, h.2⟩⟩
      · rw [goodC_iff.2 ⟨by omega, by omega, by omega⟩] at hg
        cases hg
      · have h0 := h.1
        unfold NewN at h0
        rw [g4] at h0
        exact h0
  obtain ⟨f, hf, hN⟩ := HC.out
  have HF := Lib.hid hf
  have HN := Lib.hid hN
  have hf0 : (f != 0) = true := bne_iff_ne.2 (by omega)
  have hf1 : (f == 0) = false := beq_eq_false_iff_ne.2 (by omega)
  have hba : Below w.heap.size w (w.alloc (.cells #[.int .u64 u, .int .u64 v, .int .i64 z, .int .i64 most] 74)) := (Below.refl _ _).alloc (Nat.le_refl _) _
  have am : At (w.alloc (.cells #[.int .u64 u, .int .u64 v, .int .i64 z, .int .i64 most] 74)) w.heap.size #[.int .u64 u, .int .u64 v, .int .i64 z, .int .i64 most] 74 := At.new' _ _ _ rfl
  clear h1 h2 h3 h4 hc hf hN HC
  go_enter Tryz.func32, Tryz.ntmps32
  go_wp2_with fail
  refine (HN.out _).mono ?_
  rintro e w2 ⟨rfl, hb⟩
  have HB2 := Lib.hid (keep1 hba hb)
  clear hba am hb HN
  go_wp2
  go_ret2
  exact ⟨⟨f, rfl, HF.out⟩, HB2.out⟩
/-- What New answers. -/
def LsNew (u v z most : Int) (w : World) (e : Ending) (w' : World) : Prop :=
  (∃ part rep stand s b S, Cs u v 0 false part rep stand ∧ z = sideZ s ∧ (1 ≤ most ∧ most ≤ 4096) ∧ e = .returned (.tuple #[.pointer (some ⟨b, 0, none⟩), .int .i64 0]) ∧ Within S w.heap.size w'.heap.size ∧ LsV w' b S part rep u v s most []) ∨
  (∃ f : Int, e = .returned (.tuple #[.pointer none, .int .i64 f]) ∧ (f = 1 ∨ f = 6) ∧ (goodC u v = false → f = 1))
theorem lsnew_any (u v z most : Int) (w : World) (h1 : 0 ≤ u) (h2 : u < 18446744073709551616) (h3 : 0 ≤ v) (h4 : v < 18446744073709551616) :
    Calls Tryz.prog 32 #[.agg #[.int .u64 u, .int .u64 v, .int .i64 z, .int .i64 most]] w fun e w' => LsNew u v z most w e w' ∧ Below w.heap.size w w' := by
  rcases cs_cases (u := u) (v := v) (d := 0) h1 h3 (by omega) (by omega) with ⟨k, part, rep, stand, hc⟩ | hc
  · have hk : k = false := by
      rcases hc with ⟨_, h, _⟩ | ⟨h, _⟩
      · omega
      · exact h
    subst hk
    by_cases hm : (z = 0 ∨ z = 1) ∧ 1 ≤ most ∧ most ≤ 4096
    · obtain ⟨s, rfl⟩ : ∃ s, sideZ s = z := by
        rcases hm.1 with h | h
        · exact ⟨true, h.symm⟩
        · exact ⟨false, h.symm⟩
      refine (lsnew_yes u v part rep stand s most w hc hm.2).mono ?_
      rintro e w' ⟨⟨b, S, he, hW, hN⟩, hb⟩
      exact ⟨.inl ⟨part, rep, stand, s, b, S, hc, rfl, hm.2, he, hW, hN⟩, hb⟩
    · refine (lsnew_side u v part rep stand z most w hc hm).mono ?_
      rintro e w' ⟨he, hb⟩
      exact ⟨.inr ⟨1, he, .inl rfl, fun _ => rfl⟩, hb⟩
  · refine (lsnew_no u v z most w h1 h2 h3 h4 hc).mono ?_
    rintro e w' ⟨⟨f, he, hf⟩, hb⟩
    exact ⟨.inr ⟨f, he, hf⟩, hb⟩
/-! ## Bins, Config, Ends. -/
theorem lsbins_nil (w : World) : Calls Tryz.prog 24 #[.pointer none] w fun e w' => e = .returned (.pointer none) ∧ w = w' := by
  go_enter Tryz.func24, Tryz.ntmps24
  go_wp2
  go_ret
  exact ⟨rfl, rfl⟩
theorem lsbins_at (b : Nat) (x0 x1 x2 x3 x4 x5 x6 : Value) (w : World) (h : At w b #[x0, x1, x2, x3, x4, x5, x6] 86) : Calls Tryz.prog 24 #[.pointer (some ⟨b, 0, none⟩)] w fun e w' => e = .returned x0 ∧ w = w' := by
  have f1 := h.seven
  clear h
  go_enter Tryz.func24, Tryz.ntmps24
  go_wp2
  go_ret
  exact ⟨rfl, rfl⟩
theorem lsends_nil (w : World) : Calls Tryz.prog 20 #[.pointer none] w fun e w' => e = .returned (.tuple #[.int .i64 0, .int .i64 0, .bool false]) ∧ w = w' := by
  go_enter Tryz.func20, Tryz.ntmps20
  go_wp2
  go_ret3
  exact ⟨rfl, rfl⟩
set_option maxRecDepth 100000 in
theorem lsends_k (b : Nat) (S : List Nat) (part : Nat → Int) (rep : Int → Int) (u v : Int) (s : Bool) (most : Int) (l : List (Int × Int)) (lo hi : Int) (w : World) (h : Ls w b S part rep u v s most l lo hi) (hv : VOk l) :
    Calls Tryz.prog 20 #[.pointer (some ⟨b, 0, none⟩)] w fun e w' => e = .returned (.tuple #[.int .i64 (if sumP l = 0 then 0 else lo), .int .i64 (if sumP l = 0 then 0 else hi), .bool (decide (sumP l ≠ 0))]) ∧ Below w.heap.size w w' := by
  obtain ⟨bb, B, rfl, h⟩ := h
  have HT := Lib.hid (btot_v bb B false part rep s most l w h.bn hv)
  have s1 := h.at'
  have f1 := s1.seven
  have l1 := s1.lt
  have HA := Lib.hid h.at'
  obtain ⟨t, ht⟩ : ∃ t, sumP l = t := ⟨_, rfl⟩
  rw [ht] at HT ⊢
  clear h ht s1
  by_cases h0 : t = 0
  · rw [if_pos h0, if_pos h0, decide_eq_false (fun h => h h0)]
    rw [h0] at HT
    clear h0
    go_enter Tryz.func20, Tryz.ntmps20
    go_wp2_with fail
    refine HT.out.mono ?_
    rintro e w1 ⟨rfl, hb⟩
    have HB := Lib.hid hb
    clear hb HT f1 l1
    go_wp2
    go_ret3
    exact ⟨rfl, HB.out⟩
  · rw [if_neg h0, if_neg h0, decide_eq_true h0]
    have hd : (t == 0) = false := beq_eq_false_iff_ne.2 h0
    clear h0
    go_enter Tryz.func20, Tryz.ntmps20
    go_wp2_with fail
    refine HT.out.mono ?_
    rintro e w1 ⟨rfl, hb⟩
    have HB := Lib.hid hb
    have s2 := HA.out.below hb
    clear hb HT f1 l1 HA
    go_wp2
    have hfar1 := fun x : Far w1 => (x.at s2).seven
    refine wp_region_far (by kernel_rfl) (by kernel_rfl) ?_
    repeat (first | go_big_quiet_skip | (go_big_quiet_want; go_big_quiet_op; first | go_big_quiet_on | (apply Exists.intro; refine ⟨fun _ => ?_, ?_⟩; (focus (first | (fail))); go_big_quiet_on)))
    refine wpQuiet_nil ?_
    rintro _ ⟨xq, rfl⟩
    clear hfar1
    have hb2 := xq.below
    clear s2 hd
    go_wp2
    go_ret3
    exact ⟨rfl, keep1 HB.out hb2⟩
theorem lsends_v (b : Nat) (S : List Nat) (part : Nat → Int) (rep : Int → Int) (u v : Int) (s : Bool) (most : Int) (l : List (Int × Int)) (w : World) (h : LsV w b S part rep u v s most l) (hv : VOk l) :
    Calls Tryz.prog 20 #[.pointer (some ⟨b, 0, none⟩)] w fun e w' => e = .returned (.tuple #[.int .i64 (eLow l), .int .i64 (eHigh l), .bool (eIs l)]) ∧ Below w.heap.size w w' := by
  have k := lsends_k b S part rep u v s most l _ _ w h hv
  by_cases h0 : sumP l = 0
  · rw [if_pos h0, if_pos h0, decide_eq_false (fun h => h h0)] at k
    have e := hv.empty.1 h0
    subst e
    exact k
  · rw [if_neg h0, if_neg h0, decide_eq_true h0] at k
    have : eIs l = true := by
      unfold eIs
      exact decide_eq_true fun e => h0 (by rw [List.eq_nil_of_length_eq_zero e]; rfl)
    rw [this]
    exact k
end Go.Proofs.YtondkkhagbcadaaGreat
