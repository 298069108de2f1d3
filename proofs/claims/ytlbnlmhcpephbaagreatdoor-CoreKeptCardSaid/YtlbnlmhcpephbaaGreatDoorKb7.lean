/- Texts of this claim, joined, indents halved: Bn, BnAdd, BnAsk, BnFind, BnRank, BnMerge, Exact13, Ref13, VEnds, VOk, BnV, Doc13, Empty13. -/
import Derived.Test.YtlbnlmhcpephbaaGreatDoorProg
import Derived.Test.YtlbnlmhcpephbaaGreatDoorKb6
namespace Go.Proofs.YtlbnlmhcpephbaaGreatDoor
open Go.RowKit
def sideZ : Bool → Int
 | true => 0
 | false => 1
structure BnB (PB : List Nat) (w : World) (b : Nat) (k : Bool) (pa : Nat) (part : Nat → Int) (rep : Int → Int) (s : Bool) (most : Int) (c0 c1 : Nat) (S0 S1 : List Nat) (ps0 ps1 : List (Int × Int)) (t0 t1 zero : Int) : Prop where
 at' : At w b #[.iface (pKnd k).T (.pointer (some ⟨pa, 0, none⟩)), .int .i64 (sideZ s), .int .i64 most, .iface (sKnd s).T (.pointer (some ⟨c0, 0, none⟩)), .iface (sKnd s).T (.pointer (some ⟨c1, 0, none⟩)), .int .u64 zero] 208
 pr : PAt w k pa part rep PB
 s0 : Sto w s c0 S0 most ps0 t0
 s1 : Sto w s c1 S1 most ps1 t1
 n0 : b ∉ S0
 n1 : b ∉ S1
 ap : Apart S0 S1
 nb : b ∉ PB
 a0 : Apart PB S0
 a1 : Apart PB S1
section
variable {PB : List Nat} {w w' : World} {b pa c0 c1 : Nat} {k s : Bool} {part : Nat → Int} {rep : Int → Int} {S0 S1 T : List Nat} {most t0 t1 zero zero' t : Int} {ps0 ps1 ps : List (Int × Int)}
theorem BnB.prt (h : BnB PB w b k pa part rep s most c0 c1 S0 S1 ps0 ps1 t0 t1 zero) : Prt w k pa part rep := h.pr.prt
theorem BnB.frame (h : BnB PB w b k pa part rep s most c0 c1 S0 S1 ps0 ps1 t0 t1 zero) (hf : Frame T w w') (hp : Apart PB T) (hb : b ∉ T) (h0 : Apart S0 T) (h1 : Apart S1 T) : BnB PB w' b k pa part rep s most c0 c1 S0 S1 ps0 ps1 t0 t1 zero :=
 ⟨hf.at h.at' hb, h.pr.frame hf hp, h.s0.frame hf h0, h.s1.frame hf h1, h.n0, h.n1, h.ap, h.nb, h.a0, h.a1⟩
theorem BnB.below (h : BnB PB w b k pa part rep s most c0 c1 S0 S1 ps0 ps1 t0 t1 zero) (hb : Below w.heap.size w w') : BnB PB w' b k pa part rep s most c0 c1 S0 S1 ps0 ps1 t0 t1 zero :=
 h.frame (T := []) (Frame.of_below hb) (fun _ _ => by simp) (by simp) (fun _ _ => by simp) (fun _ _ => by simp)
theorem BnB.side0 (h : BnB PB w b k pa part rep s most c0 c1 S0 S1 ps0 ps1 t0 t1 zero) (hg : GrownS S0 T w.heap.size) (hs : Sto w' s c0 T most ps t) (hf : Frame S0 w w') : BnB PB w' b k pa part rep s most c0 c1 T S1 ps ps1 t t1 zero := by
 have n : ∀ j, j < w.heap.size → j ∉ S0 → j ∉ T := fun j hj hn hm => by
  rcases hg j hm with h1 | h1
  ·exact hn h1
  ·omega
 exact ⟨hf.at h.at' h.n0, h.pr.frame hf h.a0, hs, h.s1.frame hf h.ap.symm, n _ h.at'.lt h.n0, h.n1, fun j hj hm => n j (h.s1.lt j hm) (h.ap.symm j hm) hj, h.nb, fun j hj => n j (h.pr.lt j hj) (h.a0 j hj), h.a1⟩
theorem BnB.side1 (h : BnB PB w b k pa part rep s most c0 c1 S0 S1 ps0 ps1 t0 t1 zero) (hg : GrownS S1 T w.heap.size) (hs : Sto w' s c1 T most ps t) (hf : Frame S1 w w') : BnB PB w' b k pa part rep s most c0 c1 S0 T ps0 ps t0 t zero := by
 have n : ∀ j, j < w.heap.size → j ∉ S1 → j ∉ T := fun j hj hn hm => by
  rcases hg j hm with h1 | h1
  ·exact hn h1
  ·omega
 exact ⟨hf.at h.at' h.n1, h.pr.frame hf h.a1, h.s0.frame hf h.ap, hs, h.n0, n _ h.at'.lt h.n1, fun j hj => n j (h.s0.lt j hj) (h.ap j hj), h.nb, h.a0, fun j hj => n j (h.pr.lt j hj) (h.a1 j hj)⟩
theorem BnB.noughts (h : BnB PB w b k pa part rep s most c0 c1 S0 S1 ps0 ps1 t0 t1 zero) : BnB PB (w.setCell ⟨b, 5, none⟩ (.int .u64 zero')) b k pa part rep s most c0 c1 S0 S1 ps0 ps1 t0 t1 zero' := by
 have hF := Frame.set [b] w b 5 (.int .u64 zero') (by simp)
 exact ⟨h.at'.set_any 5 _ rfl, h.pr.frame hF (fun j hj hn => h.nb (by simp at hn; rwa [← hn])), h.s0.frame hF (fun j hj hn => h.n0 (by simp at hn; rwa [← hn])), h.s1.frame hF (fun j hj hn => h.n1 (by simp at hn; rwa [← hn])), h.n0, h.n1, h.ap, h.nb, h.a0, h.a1⟩
end
def Bn (w : World) (b : Nat) (S : List Nat) (k : Bool) (part : Nat → Int) (rep : Int → Int) (s : Bool) (most : Int) (ps0 ps1 : List (Int × Int)) (t0 t1 zero : Int) : Prop :=
 ∃ PB pa c0 c1 S0 S1, S = PB ++ (b :: (S0 ++ S1)) ∧ BnB PB w b k pa part rep s most c0 c1 S0 S1 ps0 ps1 t0 t1 zero
section
variable {w w' : World} {b : Nat} {k s : Bool} {part : Nat → Int} {rep : Int → Int} {S T : List Nat} {most t0 t1 zero : Int} {ps0 ps1 : List (Int × Int)}
theorem Bn.frame (h : Bn w b S k part rep s most ps0 ps1 t0 t1 zero) (hf : Frame T w w') (hn : Apart S T) : Bn w' b S k part rep s most ps0 ps1 t0 t1 zero := by
 obtain ⟨PB, pa, c0, c1, S0, S1, rfl, h⟩ := h
 exact ⟨PB, pa, c0, c1, S0, S1, rfl, h.frame hf (fun k hk => hn k (by simp [hk])) (hn b (by simp)) (fun k hk => hn k (by simp [hk])) (fun k hk => hn k (by simp [hk]))⟩
theorem Bn.below (h : Bn w b S k part rep s most ps0 ps1 t0 t1 zero) (hb : Below w.heap.size w w') : Bn w' b S k part rep s most ps0 ps1 t0 t1 zero := h.frame (T := []) (Frame.of_below hb) (fun _ _ => by simp)
theorem Bn.lt (h : Bn w b S k part rep s most ps0 ps1 t0 t1 zero) : ∀ j ∈ S, j < w.heap.size := by
 obtain ⟨PB, pa, c0, c1, S0, S1, rfl, h⟩ := h
 intro j hj
 simp only [List.mem_cons, List.mem_append] at hj
 rcases hj with hj | rfl | hj | hj
 ·exact h.pr.lt j hj
 ·exact h.at'.lt
 ·exact h.s0.lt j hj
 ·exact h.s1.lt j hj
end
theorem fresh_any (s : Bool) (most : Int) (w : World) (h1 : 1 ≤ most) (h2 : most ≤ 4096) :
  Calls Tryz.prog 77 #[.int .i64 (sideZ s), .int .i64 most] w fun e w' => (∃ c S, e = .returned (.tuple #[.iface (sKnd s).T (.pointer (some ⟨c, 0, none⟩)), .int .i64 0]) ∧ Within S w.heap.size w'.heap.size ∧ Sto w' s c S most [] 0) ∧ Below w.heap.size w w' := by
 cases s
 ·have HN := Lib.hid (Hi.lnew_any most w h1 h2)
  show Calls _ _ #[.int .i64 1, .int .i64 most] _ _
  clear h1 h2
  go_enter Tryz.func77, Tryz.ntmps77
  go_wp2_with fail
  refine HN.out.mono ?_
  rintro e w1 ⟨⟨c, S, rfl, _, hW, hS⟩, hb⟩
  have HF : Hid ((∃ c' S', Ending.returned (.tuple #[.iface 239 (.pointer (some ⟨c, 0, none⟩)), .int .i64 0]) = .returned (.tuple #[.iface (sKnd false).T (.pointer (some ⟨c', 0, none⟩)), .int .i64 0]) ∧ Within S' w.heap.size w1.heap.size ∧ Sto w1 false c' S' most [] 0) ∧ Below w.heap.size w w1) := ⟨⟨c, S, rfl, hW, hS⟩, hb⟩
  clear hW hS hb HN
  go_wp2
  go_ret2
  exact HF.out
 ·have HN := Lib.hid (Lo.lnew_any most w h1 h2)
  show Calls _ _ #[.int .i64 0, .int .i64 most] _ _
  clear h1 h2
  go_enter Tryz.func77, Tryz.ntmps77
  go_wp2_with fail
  refine HN.out.mono ?_
  rintro e w1 ⟨⟨c, S, rfl, _, hW, hS⟩, hb⟩
  have HF : Hid ((∃ c' S', Ending.returned (.tuple #[.iface 242 (.pointer (some ⟨c, 0, none⟩)), .int .i64 0]) = .returned (.tuple #[.iface (sKnd true).T (.pointer (some ⟨c', 0, none⟩)), .int .i64 0]) ∧ Within S' w.heap.size w1.heap.size ∧ Sto w1 true c' S' most [] 0) ∧ Below w.heap.size w w1) := ⟨⟨c, S, rfl, hW, hS⟩, hb⟩
  clear hW hS hb HN
  go_wp2
  go_ret2
  exact HF.out
theorem fresh_bad (s : Bool) (most : Int) (w : World) (h : most < 1 ∨ 4096 < most) :
  Calls Tryz.prog 77 #[.int .i64 (sideZ s), .int .i64 most] w fun e w' => (∃ v, e = .returned (.tuple #[v, .int .i64 1])) ∧ w = w' := by
 cases s
 ·have HN := Lib.hid (Hi.lnew_bad most w h)
  show Calls _ _ #[.int .i64 1, .int .i64 most] _ _
  clear h
  go_enter Tryz.func77, Tryz.ntmps77
  go_wp2_with fail
  refine HN.out.mono ?_
  rintro e w1 ⟨rfl, rfl⟩
  clear HN
  go_wp2
  go_ret2
  exact ⟨⟨_, rfl⟩, rfl⟩
 ·have HN := Lib.hid (Lo.lnew_bad most w h)
  show Calls _ _ #[.int .i64 0, .int .i64 most] _ _
  clear h
  go_enter Tryz.func77, Tryz.ntmps77
  go_wp2_with fail
  refine HN.out.mono ?_
  rintro e w1 ⟨rfl, rfl⟩
  clear HN
  go_wp2
  go_ret2
  exact ⟨⟨_, rfl⟩, rfl⟩
theorem nil77 (k : Bool) (pa : Nat) (w : World) : (binOp .eql 202 (.iface (pKnd k).T (.pointer (some ⟨pa, 0, none⟩))) .nilIface).run Tryz.prog w = .ok (.bool false) w := by cases k <;> kernel_rfl
theorem bn_new {w w1 w2 : World} {k s : Bool} {pa c0 c1 : Nat} {part : Nat → Int} {rep : Int → Int} {PB S0 S1 : List Nat} {most z : Int} {T sT : TypeId} (hp : PAt w k pa part rep PB) (h1 : Below w.heap.size w w1) (h2 : Below w1.heap.size w1 w2)
  (hS0 : Sto w1 s c0 S0 most [] 0) (hW0 : Within S0 w.heap.size w1.heap.size) (hS1 : Sto w2 s c1 S1 most [] 0) (hW1 : Within S1 w1.heap.size w2.heap.size) (hz : sideZ s = z) (hT : (pKnd k).T = T) (hs : (sKnd s).T = sT) :
  (∃ b S, Ending.returned (.tuple #[.pointer (some ⟨w2.heap.size, 0, none⟩), .int .i64 0]) = .returned (.tuple #[.pointer (some ⟨b, 0, none⟩), .int .i64 0]) ∧ Within S w.heap.size (w2.alloc (.cells #[.iface T (.pointer (some ⟨pa, 0, none⟩)), .int .i64 z, .int .i64 most, .iface sT (.pointer (some ⟨c0, 0, none⟩)), .iface sT (.pointer (some ⟨c1, 0, none⟩)), .int .u64 0] 208)).heap.size ∧
   Bn (w2.alloc (.cells #[.iface T (.pointer (some ⟨pa, 0, none⟩)), .int .i64 z, .int .i64 most, .iface sT (.pointer (some ⟨c0, 0, none⟩)), .iface sT (.pointer (some ⟨c1, 0, none⟩)), .int .u64 0] 208)) b (PB ++ S) k part rep s most [] [] 0 0 0) ∧
  Below w.heap.size w (w2.alloc (.cells #[.iface T (.pointer (some ⟨pa, 0, none⟩)), .int .i64 z, .int .i64 most, .iface sT (.pointer (some ⟨c0, 0, none⟩)), .iface sT (.pointer (some ⟨c1, 0, none⟩)), .int .u64 0] 208)) := by
 subst hz hT hs
 have ha := At.new w2 #[.iface (pKnd k).T (.pointer (some ⟨pa, 0, none⟩)), .int .i64 (sideZ s), .int .i64 most, .iface (sKnd s).T (.pointer (some ⟨c0, 0, none⟩)), .iface (sKnd s).T (.pointer (some ⟨c1, 0, none⟩)), .int .u64 0] 208
 have hba : Below w2.heap.size w2 (w2.alloc (.cells #[.iface (pKnd k).T (.pointer (some ⟨pa, 0, none⟩)), .int .i64 (sideZ s), .int .i64 most, .iface (sKnd s).T (.pointer (some ⟨c0, 0, none⟩)), .iface (sKnd s).T (.pointer (some ⟨c1, 0, none⟩)), .int .u64 0] 208)) := (Below.refl _ _).alloc (Nat.le_refl _) _
 obtain ⟨W3, hW3⟩ : ∃ W, w2.alloc (.cells #[.iface (pKnd k).T (.pointer (some ⟨pa, 0, none⟩)), .int .i64 (sideZ s), .int .i64 most, .iface (sKnd s).T (.pointer (some ⟨c0, 0, none⟩)), .iface (sKnd s).T (.pointer (some ⟨c1, 0, none⟩)), .int .u64 0] 208) = W := ⟨_, rfl⟩
 rw [hW3] at ha hba ⊢
 have z1 := h1.size
 have z2 := h2.size
 have z3 := hba.size
 have l3 := ha.lt
 have h12 := keep1 h1 h2
 have h13 := keep1 h12 hba
 have hH : BnB PB W3 w2.heap.size k pa part rep s most c0 c1 S0 S1 [] [] 0 0 0 := by
  refine ⟨ha, hp.below h13, hS0.below (keep1 h2 hba), hS1.below hba, fun h => ?_, fun h => ?_, fun j hj hm => ?_, fun h => ?_, fun j hj hm => ?_, fun j hj hm => ?_⟩
  ·have := (hW0 _ h).2; omega
  ·have := (hW1 _ h).2; omega
  ·have := (hW0 j hj).2; have := (hW1 j hm).1; omega
  ·have := hp.lt _ h; omega
  ·have := hp.lt j hj; have := (hW0 j hm).1; omega
  ·have := hp.lt j hj; have := (hW1 j hm).1; omega
 refine ⟨⟨_, w2.heap.size :: (S0 ++ S1), rfl, fun j hj => ?_, PB, pa, c0, c1, S0, S1, rfl, hH⟩, h13⟩
 simp only [List.mem_cons, List.mem_append] at hj
 rcases hj with rfl | hj | hj
 ·omega
 ·have := hW0 j hj; omega
 ·have := hW1 j hj; omega
set_option maxHeartbeats 1000000 in
theorem bnew_any (PB : List Nat) (k : Bool) (pa : Nat) (part : Nat → Int) (rep : Int → Int) (s : Bool) (most : Int) (w : World) (hp : PAt w k pa part rep PB) (h1 : 1 ≤ most) (h2 : most ≤ 4096) :
  Calls Tryz.prog 57 #[.iface (pKnd k).T (.pointer (some ⟨pa, 0, none⟩)), .int .i64 (sideZ s), .int .i64 most] w fun e w' => (∃ b S, e = .returned (.tuple #[.pointer (some ⟨b, 0, none⟩), .int .i64 0]) ∧ Within S w.heap.size w'.heap.size ∧ Bn w' b (PB ++ S) k part rep s most [] [] 0 0 0) ∧ Below w.heap.size w w' := by
 have HN := Lib.hid fun W => fresh_any s most W h1 h2
 have hnil := nil77 k pa
 have HFN := Lib.hid fun (c0 c1 : Nat) (S0 S1 : List Nat) (w1 w2 : World) (z : Int) (T sT : TypeId) (a1 : Below w.heap.size w w1) (a2 : Below w1.heap.size w1 w2) (a3 : Sto w1 s c0 S0 most [] 0) a4 (a5 : Sto w2 s c1 S1 most [] 0) a6 a7 a8 a9 => bn_new (z := z) (T := T) (sT := sT) hp a1 a2 a3 a4 a5 a6 a7 a8 a9
 obtain ⟨T, hT⟩ : ∃ T, (pKnd k).T = T := ⟨_, rfl⟩
 have HT := Lib.hid hT
 rw [hT] at hnil ⊢
 obtain ⟨zz, hzz⟩ : ∃ z, sideZ s = z := ⟨_, rfl⟩
 have HZ : Hid (zz = 0 ∨ zz = 1) := by show _ ∨ _; rw [← hzz]; cases s; exact .inr rfl; exact .inl rfl
 have HZZ := Lib.hid hzz
 rw [hzz] at HN ⊢
 obtain ⟨sT, hsT⟩ : ∃ z, (sKnd s).T = z := ⟨_, rfl⟩
 have HST := Lib.hid hsT
 rw [hsT] at HN
 clear hp h1 h2 hT hzz hsT
 rcases HZ.out with rfl | rfl
 all_goals
  go_enter Tryz.func57, Tryz.ntmps57
  go_wp2_with fail
  refine (HN.out w).mono ?_
  rintro e w1 ⟨⟨c0, S0, rfl, hW0, hS0⟩, hb1⟩
  have HS0 := Lib.hid hS0
  have HW0 := Lib.hid hW0
  have HB1 := Lib.hid hb1
  clear hW0 hS0 hb1
  go_wp2_with fail
  refine (HN.out w1).mono ?_
  rintro e w2 ⟨⟨c1, S1, rfl, hW1, hS1⟩, hb2⟩
  have HF := Lib.hid (HFN.out c0 c1 S0 S1 w1 w2 _ T sT HB1.out hb2 HS0.out HW0.out hS1 hW1 HZZ.out HT.out HST.out)
  clear HS0 HW0 HB1 hW1 hS1 hb2 HN HFN
  go_wp2
  go_ret2
  exact HF.out
theorem bnew_bad (k : Bool) (pa : Nat) (s : Bool) (most : Int) (w : World) (h : most < 1 ∨ 4096 < most) :
  Calls Tryz.prog 57 #[.iface (pKnd k).T (.pointer (some ⟨pa, 0, none⟩)), .int .i64 (sideZ s), .int .i64 most] w fun e w' => e = .returned (.tuple #[.pointer none, .int .i64 1]) ∧ w = w' := by
 have HN := Lib.hid (fresh_bad s most w h)
 have hnil := nil77 k pa
 obtain ⟨T, hT⟩ : ∃ T, (pKnd k).T = T := ⟨_, rfl⟩
 rw [hT] at hnil ⊢
 obtain ⟨zz, hzz⟩ : ∃ z, sideZ s = z := ⟨_, rfl⟩
 have HZ : Hid (zz = 0 ∨ zz = 1) := by show _ ∨ _; rw [← hzz]; cases s; exact .inr rfl; exact .inl rfl
 rw [hzz] at HN ⊢
 clear hT hzz h
 rcases HZ.out with rfl | rfl
 all_goals
  go_enter Tryz.func57, Tryz.ntmps57
  go_wp2_with fail
  refine HN.out.mono ?_
  rintro e w1 ⟨⟨v, rfl⟩, rfl⟩
  clear HN
  go_wp2
  go_ret2
  exact ⟨rfl, rfl⟩
theorem bnew_side (k : Bool) (pa : Nat) (z most : Int) (w : World) (h : z ≠ 0 ∧ z ≠ 1) :
  Calls Tryz.prog 57 #[.iface (pKnd k).T (.pointer (some ⟨pa, 0, none⟩)), .int .i64 z, .int .i64 most] w fun e w' => e = .returned (.tuple #[.pointer none, .int .i64 1]) ∧ w = w' := by
 have hnil := nil77 k pa
 obtain ⟨T, hT⟩ : ∃ T, (pKnd k).T = T := ⟨_, rfl⟩
 rw [hT] at hnil ⊢
 have d0 : (z != 0) = true := bne_iff_ne.2 h.1
 have d1 : (z != 1) = true := bne_iff_ne.2 h.2
 clear hT h
 go_enter Tryz.func57, Tryz.ntmps57
 go_wp2
 go_ret2
 exact ⟨rfl, rfl⟩
set_option maxRecDepth 100000 in
set_option maxHeartbeats 1000000 in
theorem btot_at (PB : List Nat) (b : Nat) (k : Bool) (pa : Nat) (part : Nat → Int) (rep : Int → Int) (s : Bool) (most : Int) (c0 c1 : Nat) (S0 S1 : List Nat) (ps0 ps1 : List (Int × Int)) (t0 t1 zero t : Int) (w : World)
  (h : BnB PB w b k pa part rep s most c0 c1 S0 S1 ps0 ps1 t0 t1 zero) (hz : 0 ≤ zero) (he : t0 + zero + t1 = t) (ht : t ≤ 9223372036854775807) :
  Calls Tryz.prog 103 #[.pointer (some ⟨b, 0, none⟩)] w fun e w' => e = .returned (.int .u64 t) ∧ Below w.heap.size w w' := by
 have s1 := h.at'
 have p0 := h.s0.sums
 have p1 := h.s1.sums
 have HT0 := Lib.hid fun W (hb : Below w.heap.size w W) => sto_total s c0 S0 most t0 ps0 W (h.s0.below hb)
 have HT1 := Lib.hid fun W (hb : Below w.heap.size w W) => sto_total s c1 S1 most t1 ps1 W (h.s1.below hb)
 have m1 := (sTotal s).1
 have m2 := (sTotal s).2
 have HW : Hid (IntKind.u64.wrap (IntKind.u64.wrap (t0 + zero) + t1) = t) := by show _ = _; simp only [IntKind.wrap_u64]; omega
 obtain ⟨sT, hsT⟩ : ∃ z, (sKnd s).T = z := ⟨_, rfl⟩
 obtain ⟨sF, hsF⟩ : ∃ z, (sKnd s).fT = z := ⟨_, rfl⟩
 rw [hsT] at s1 m1
 rw [hsF] at m1 m2 HT0 HT1
 clear h hz he ht p0 p1 hsT hsF
 go_enter Tryz.func103, Tryz.ntmps103
 go_wp2
 have hfar1 := fun x : Far w => (x.at s1).six
 refine wp_region_far (by kernel_rfl) (by kernel_rfl) ?_
 repeat (first | go_big_quiet_skip | (go_big_quiet_want; go_big_quiet_op; first | go_big_quiet_on | (apply Exists.intro; refine ⟨fun _ => ?_, ?_⟩; (focus (first | (with_reducible refine far_of (HT0.out _ (Far.below _))) | (with_reducible refine far_of (HT1.out _ (Far.below _))))); go_big_quiet_on)))
 refine wpQuiet_nil ?_
 rintro _ ⟨xq, rfl⟩
 clear hfar1
 have hb := xq.below
 rw [HW.out]
 clear HT0 HT1 s1
 go_wp2
 go_ret
 exact ⟨rfl, hb⟩
end Go.Proofs.YtlbnlmhcpephbaaGreatDoor

namespace Go.Proofs.YtlbnlmhcpephbaaGreatDoor
open Go.RowKit
theorem badd_zero (b : Nat) (x : Int) (w : World) : Calls Tryz.prog 185 #[.pointer (some ⟨b, 0, none⟩), .int .i64 x, .int .u64 0] w fun e w' => e = .returned (.int .i64 1) ∧ w = w' := by
 go_enter Tryz.func185, Tryz.ntmps185
 go_wp2
 go_ret
 exact ⟨rfl, rfl⟩
def BaddR (b : Nat) (S : List Nat) (k : Bool) (part : Nat → Int) (rep : Int → Int) (s : Bool) (most : Int) (ps0 ps1 : List (Int × Int)) (t0 t1 zero : Int) (w w' : World) : Prop :=
 ∃ S', GrownS S S' w.heap.size ∧ Bn w' b S' k part rep s most ps0 ps1 t0 t1 zero ∧ Frame S w w'
theorem badd_fin0 {PB : List Nat} {w w1 w2 : World} {b pa c0 c1 : Nat} {k s : Bool} {part : Nat → Int} {rep : Int → Int} {S0 S1 : List Nat} {most t0 t1 zero t : Int} {ps0 ps1 ps : List (Int × Int)} (h : BnB PB w1 b k pa part rep s most c0 c1 S0 S1 ps0 ps1 t0 t1 zero) (hb : Below w.heap.size w w1)
  (hA : StoA s c0 S0 most ps t w1 w2) : BaddR b (PB ++ (b :: (S0 ++ S1))) k part rep s most ps ps1 t t1 zero w w2 := by
 obtain ⟨T, hg, hS, hF⟩ := hA
 have hz := hb.size
 refine ⟨PB ++ (b :: (T ++ S1)), fun j hj => ?_, ⟨_, _, _, _, _, _, rfl, h.side0 hg hS hF⟩, (Frame.of_below hb).trans (hF.mono fun j hj => by simp [hj])⟩
 simp only [List.mem_cons, List.mem_append] at hj ⊢
 rcases hj with hj | rfl | hj | hj
 ·exact .inl (.inl hj)
 ·exact .inl (.inr (.inl rfl))
 ·rcases hg j hj with h1 | h1
  ·exact .inl (.inr (.inr (.inl h1)))
  ·exact .inr (Nat.le_trans hz h1)
 ·exact .inl (.inr (.inr (.inr hj)))
theorem badd_fin1 {PB : List Nat} {w w1 w2 : World} {b pa c0 c1 : Nat} {k s : Bool} {part : Nat → Int} {rep : Int → Int} {S0 S1 : List Nat} {most t0 t1 zero t : Int} {ps0 ps1 ps : List (Int × Int)} (h : BnB PB w1 b k pa part rep s most c0 c1 S0 S1 ps0 ps1 t0 t1 zero) (hb : Below w.heap.size w w1)
  (hA : StoA s c1 S1 most ps t w1 w2) : BaddR b (PB ++ (b :: (S0 ++ S1))) k part rep s most ps0 ps t0 t zero w w2 := by
 obtain ⟨T, hg, hS, hF⟩ := hA
 have hz := hb.size
 refine ⟨PB ++ (b :: (S0 ++ T)), fun j hj => ?_, ⟨_, _, _, _, _, _, rfl, h.side1 hg hS hF⟩, (Frame.of_below hb).trans (hF.mono fun j hj => by simp [hj])⟩
 simp only [List.mem_cons, List.mem_append] at hj ⊢
 rcases hj with hj | rfl | hj | hj
 ·exact .inl (.inl hj)
 ·exact .inl (.inr (.inl rfl))
 ·exact .inl (.inr (.inr (.inl hj)))
 ·rcases hg j hj with h1 | h1
  ·exact .inl (.inr (.inr (.inr h1)))
  ·exact .inr (Nat.le_trans hz h1)
set_option maxRecDepth 100000 in
set_option maxHeartbeats 1000000 in
theorem badd_neg (PB : List Nat) (b : Nat) (k : Bool) (pa : Nat) (part : Nat → Int) (rep : Int → Int) (s : Bool) (most : Int) (c0 c1 : Nat) (S0 S1 : List Nat) (ps0 ps1 : List (Int × Int)) (t0 t1 zero t x c : Int) (w : World)
  (h : BnB PB w b k pa part rep s most c0 c1 S0 S1 ps0 ps1 t0 t1 zero) (hz : 0 ≤ zero) (he : t0 + zero + t1 = t) (hc : 0 < c) (hf : t + c ≤ 9223372036854775807) (hx1 : -9223372036854775808 ≤ x) (hx : x < 0) :
  Calls Tryz.prog 185 #[.pointer (some ⟨b, 0, none⟩), .int .i64 x, .int .u64 c] w fun e w' => e = .returned (.int .i64 0) ∧ BaddR b (PB ++ (b :: (S0 ++ S1))) k part rep s most (capRow s most ps0 (part x.natAbs) c) ps1 (t0 + c) t1 zero w w' := by
 have HT := Lib.hid (btot_at _ _ _ _ _ _ _ _ _ _ _ _ _ _ _ _ _ _ w h hz he (by omega))
 have c0' : (c == 0) = false := beq_eq_false_iff_ne.2 (by omega)
 have p0 := h.s0.sums
 have p1 := h.s1.sums
 have H := Lib.hid h
 have HSG := Lib.hid fun W => sgof_any x W hx1 (by omega)
 have HIX := Lib.hid fun W (hb : Below w.heap.size w W) => h.prt.ix W hb x.natAbs (by omega) (by omega)
 have H0 : Hid (0 ≤ t ∧ t + c ≤ 9223372036854775807 ∧ 0 < c ∧ 0 ≤ zero ∧ t0 ≤ t ∧ t1 ≤ t ∧ zero ≤ t) := ⟨by omega, hf, hc, hz, by omega, by omega, by omega⟩
 obtain ⟨q1, q2⟩ := plus2_yes (a := t) (b := c) (by omega)
 have HP := Lib.hid (And.intro q1 q2)
 have s1 := h.at'
 have m1 := (pIndex k).1
 have m2 := (pIndex k).2
 have HAD := Lib.hid fun W (hb : Below w.heap.size w W) => sto_add s c0 S0 most t0 (part x.natAbs) c ps0 W ((H.out.below hb).s0) H0.out.2.2.1 (by have := H0.out; omega) (by have := h.prt.rng x.natAbs (by omega) (by omega); omega)
 have m3 := (sAdd s).1
 have m4 := (sAdd s).2
 obtain ⟨q, hq⟩ : ∃ q, part x.natAbs = q := ⟨_, rfl⟩
 rw [hq] at HIX HAD
 rw [hq]
 obtain ⟨sT, hsT⟩ : ∃ z, (sKnd s).T = z := ⟨_, rfl⟩
 obtain ⟨sF, hsF⟩ : ∃ z, (sKnd s).fA = z := ⟨_, rfl⟩
 rw [hsT] at s1 m3
 rw [hsF] at m3 m4 HAD
 obtain ⟨m, hm⟩ : ∃ m : Int, (x.natAbs : Int) = m := ⟨_, rfl⟩
 rw [hm] at HSG HIX
 obtain ⟨pT, hpT⟩ : ∃ z, (pKnd k).T = z := ⟨_, rfl⟩
 obtain ⟨pF, hpF⟩ : ∃ z, (pKnd k).fI = z := ⟨_, rfl⟩
 rw [hpT] at s1 m1
 rw [hpF] at m1 m2 HIX
 clear h hz he hc hf p0 p1 q1 q2 hpT hpF hsT hsF hm hq hx1
 go_enter Tryz.func185, Tryz.ntmps185
 go_wp2_with fail
 refine HT.out.mono ?_
 rintro e w1 ⟨rfl, hb⟩
 have z1 := hb.size
 clear HT
 go_wp2_with fail
 have a1 := At.new w1 #[.int .u64 t, .int .u64 c] 23
 refine (plus2_any w1.heap.size t c _ (by have := H0.out; omega) (by have := H0.out; omega) (by have := H0.out; omega) (by have := H0.out; omega) (a1.cell rfl) (a1.cell rfl)).mono ?_
 rintro e w2 ⟨rfl, rfl⟩
 rw [HP.out.1, HP.out.2]
 have hB2 : Below w.heap.size w (w1.alloc (.cells #[.int .u64 t, .int .u64 c] 23)) := (by repeat (first | with_reducible assumption | with_reducible exact Below.refl _ _ | with_reducible refine Below.drew ?_ | with_reducible refine Below.drewN ?_ _ | with_reducible refine Below.setCell ?_ (by first | omega | (simp; done) | (simp; omega)) _ | with_reducible refine Below.alloc ?_ (by first | omega | (simp; done) | (simp; omega) | (simp [World.setCell]; omega)) _))
 obtain ⟨W2, hW2⟩ : ∃ W2, w1.alloc (.cells #[.int .u64 t, .int .u64 c] 23) = W2 := ⟨_, rfl⟩
 have HB2 := Lib.hid hB2
 rw [hW2] at HB2
 try rw [hW2]
 clear hB2 hW2 hb a1 z1
 go_wp2_with fail
 refine (HSG.out W2).mono ?_
 rintro e w3 ⟨rfl, rfl⟩
 rw [decide_eq_true hx]
 clear hx
 have s2 := s1.below HB2.out
 have f2 := s2.six
 have l2 := s2.lt
 clear HSG s1
 go_wp2_with fail
 refine (HIX.out W2 HB2.out).mono ?_
 rintro e w4 ⟨rfl, hb⟩
 have HB4 := Lib.hid (keep1 HB2.out hb)
 have s4 := s2.below hb
 have f4 := s4.six
 have l4 := s4.lt
 clear hb HB2 f2 l2 s2 HIX
 go_wp2_with fail
 refine (HAD.out w4 HB4.out).mono ?_
 rintro e w5 ⟨rfl, hA⟩
 have HF := Lib.hid (badd_fin0 (H.out.below HB4.out) HB4.out hA)
 clear hA f4 l4 s4 HAD H
 go_wp2
 go_ret
 exact ⟨rfl, HF.out⟩
set_option maxRecDepth 100000 in
set_option maxHeartbeats 1000000 in
theorem badd_pos (PB : List Nat) (b : Nat) (k : Bool) (pa : Nat) (part : Nat → Int) (rep : Int → Int) (s : Bool) (most : Int) (c0 c1 : Nat) (S0 S1 : List Nat) (ps0 ps1 : List (Int × Int)) (t0 t1 zero t x c : Int) (w : World)
  (h : BnB PB w b k pa part rep s most c0 c1 S0 S1 ps0 ps1 t0 t1 zero) (hz : 0 ≤ zero) (he : t0 + zero + t1 = t) (hc : 0 < c) (hf : t + c ≤ 9223372036854775807) (hx2 : x ≤ 9223372036854775807) (hx : 0 < x) :
  Calls Tryz.prog 185 #[.pointer (some ⟨b, 0, none⟩), .int .i64 x, .int .u64 c] w fun e w' => e = .returned (.int .i64 0) ∧ BaddR b (PB ++ (b :: (S0 ++ S1))) k part rep s most ps0 (capRow s most ps1 (part x.natAbs) c) t0 (t1 + c) zero w w' := by
 have HT := Lib.hid (btot_at _ _ _ _ _ _ _ _ _ _ _ _ _ _ _ _ _ _ w h hz he (by omega))
 have c0' : (c == 0) = false := beq_eq_false_iff_ne.2 (by omega)
 have p0 := h.s0.sums
 have p1 := h.s1.sums
 have H := Lib.hid h
 have HSG := Lib.hid fun W => sgof_any x W (by omega) hx2
 have HIX := Lib.hid fun W (hb : Below w.heap.size w W) => h.prt.ix W hb x.natAbs (by omega) (by omega)
 have H0 : Hid (0 ≤ t ∧ t + c ≤ 9223372036854775807 ∧ 0 < c ∧ 0 ≤ zero ∧ t0 ≤ t ∧ t1 ≤ t ∧ zero ≤ t) := ⟨by omega, hf, hc, hz, by omega, by omega, by omega⟩
 obtain ⟨q1, q2⟩ := plus2_yes (a := t) (b := c) (by omega)
 have HP := Lib.hid (And.intro q1 q2)
 have s1 := h.at'
 have m1 := (pIndex k).1
 have m2 := (pIndex k).2
 have HAD := Lib.hid fun W (hb : Below w.heap.size w W) => sto_add s c1 S1 most t1 (part x.natAbs) c ps1 W ((H.out.below hb).s1) H0.out.2.2.1 (by have := H0.out; omega) (by have := h.prt.rng x.natAbs (by omega) (by omega); omega)
 have m3 := (sAdd s).1
 have m4 := (sAdd s).2
 obtain ⟨q, hq⟩ : ∃ q, part x.natAbs = q := ⟨_, rfl⟩
 rw [hq] at HIX HAD
 rw [hq]
 obtain ⟨sT, hsT⟩ : ∃ z, (sKnd s).T = z := ⟨_, rfl⟩
 obtain ⟨sF, hsF⟩ : ∃ z, (sKnd s).fA = z := ⟨_, rfl⟩
 rw [hsT] at s1 m3
 rw [hsF] at m3 m4 HAD
 obtain ⟨m, hm⟩ : ∃ m : Int, (x.natAbs : Int) = m := ⟨_, rfl⟩
 rw [hm] at HSG HIX
 obtain ⟨pT, hpT⟩ : ∃ z, (pKnd k).T = z := ⟨_, rfl⟩
 obtain ⟨pF, hpF⟩ : ∃ z, (pKnd k).fI = z := ⟨_, rfl⟩
 rw [hpT] at s1 m1
 rw [hpF] at m1 m2 HIX
 clear h hz he hc hf p0 p1 q1 q2 hpT hpF hsT hsF hm hq hx2
 go_enter Tryz.func185, Tryz.ntmps185
 go_wp2_with fail
 refine HT.out.mono ?_
 rintro e w1 ⟨rfl, hb⟩
 have z1 := hb.size
 clear HT
 go_wp2_with fail
 have a1 := At.new w1 #[.int .u64 t, .int .u64 c] 23
 refine (plus2_any w1.heap.size t c _ (by have := H0.out; omega) (by have := H0.out; omega) (by have := H0.out; omega) (by have := H0.out; omega) (a1.cell rfl) (a1.cell rfl)).mono ?_
 rintro e w2 ⟨rfl, rfl⟩
 rw [HP.out.1, HP.out.2]
 have hB2 : Below w.heap.size w (w1.alloc (.cells #[.int .u64 t, .int .u64 c] 23)) := (by repeat (first | with_reducible assumption | with_reducible exact Below.refl _ _ | with_reducible refine Below.drew ?_ | with_reducible refine Below.drewN ?_ _ | with_reducible refine Below.setCell ?_ (by first | omega | (simp; done) | (simp; omega)) _ | with_reducible refine Below.alloc ?_ (by first | omega | (simp; done) | (simp; omega) | (simp [World.setCell]; omega)) _))
 obtain ⟨W2, hW2⟩ : ∃ W2, w1.alloc (.cells #[.int .u64 t, .int .u64 c] 23) = W2 := ⟨_, rfl⟩
 have HB2 := Lib.hid hB2
 rw [hW2] at HB2
 try rw [hW2]
 clear hB2 hW2 hb a1 z1
 go_wp2_with fail
 refine (HSG.out W2).mono ?_
 rintro e w3 ⟨rfl, rfl⟩
 rw [decide_eq_false (by omega : ¬ x < 0)]
 clear hx
 have s2 := s1.below HB2.out
 have f2 := s2.six
 have l2 := s2.lt
 clear HSG s1
 go_wp2_with fail
 refine (HIX.out W2 HB2.out).mono ?_
 rintro e w4 ⟨rfl, hb⟩
 have HB4 := Lib.hid (keep1 HB2.out hb)
 have s4 := s2.below hb
 have f4 := s4.six
 have l4 := s4.lt
 clear hb HB2 f2 l2 s2 HIX
 go_wp2_with fail
 refine (HAD.out w4 HB4.out).mono ?_
 rintro e w5 ⟨rfl, hA⟩
 have HF := Lib.hid (badd_fin1 (H.out.below HB4.out) HB4.out hA)
 clear hA f4 l4 s4 HAD H
 go_wp2
 go_ret
 exact ⟨rfl, HF.out⟩
set_option maxRecDepth 100000 in
set_option maxHeartbeats 1000000 in
theorem badd_nought (PB : List Nat) (b : Nat) (k : Bool) (pa : Nat) (part : Nat → Int) (rep : Int → Int) (s : Bool) (most : Int) (c0 c1 : Nat) (S0 S1 : List Nat) (ps0 ps1 : List (Int × Int)) (t0 t1 zero t c : Int) (w : World)
  (h : BnB PB w b k pa part rep s most c0 c1 S0 S1 ps0 ps1 t0 t1 zero) (hz : 0 ≤ zero) (he : t0 + zero + t1 = t) (hc : 0 < c) (hf : t + c ≤ 9223372036854775807) :
  Calls Tryz.prog 185 #[.pointer (some ⟨b, 0, none⟩), .int .i64 0, .int .u64 c] w fun e w' => e = .returned (.int .i64 0) ∧ BaddR b (PB ++ (b :: (S0 ++ S1))) k part rep s most ps0 ps1 t0 t1 (zero + c) w w' := by
 have HT := Lib.hid (btot_at _ _ _ _ _ _ _ _ _ _ _ _ _ _ _ _ _ _ w h hz he (by omega))
 have c0' : (c == 0) = false := beq_eq_false_iff_ne.2 (by omega)
 have p0 := h.s0.sums
 have p1 := h.s1.sums
 have H := Lib.hid h
 have HSG := Lib.hid fun W => sgof_any 0 W (by omega) (by omega)
 have HIX := Lib.hid fun W (hb : Below w.heap.size w W) => h.prt.i0 W hb
 have H0 : Hid (0 ≤ t ∧ t + c ≤ 9223372036854775807 ∧ 0 < c ∧ 0 ≤ zero ∧ t0 ≤ t ∧ t1 ≤ t ∧ zero ≤ t) := ⟨by omega, hf, hc, hz, by omega, by omega, by omega⟩
 obtain ⟨q1, q2⟩ := plus2_yes (a := t) (b := c) (by omega)
 have HP := Lib.hid (And.intro q1 q2)
 have s1 := h.at'
 have m1 := (pIndex k).1
 have m2 := (pIndex k).2
 have HW : Hid (IntKind.u64.wrap (zero + c) = zero + c) := by show _ = _; simp only [IntKind.wrap_u64]; have := H0.out; omega
 obtain ⟨pT, hpT⟩ : ∃ z, (pKnd k).T = z := ⟨_, rfl⟩
 obtain ⟨pF, hpF⟩ : ∃ z, (pKnd k).fI = z := ⟨_, rfl⟩
 rw [hpT] at s1 m1
 rw [hpF] at m1 m2 HIX
 clear h hz he hc hf p0 p1 q1 q2 hpT hpF
 go_enter Tryz.func185, Tryz.ntmps185
 go_wp2_with fail
 refine HT.out.mono ?_
 rintro e w1 ⟨rfl, hb⟩
 have z1 := hb.size
 clear HT
 go_wp2_with fail
 have a1 := At.new w1 #[.int .u64 t, .int .u64 c] 23
 refine (plus2_any w1.heap.size t c _ (by have := H0.out; omega) (by have := H0.out; omega) (by have := H0.out; omega) (by have := H0.out; omega) (a1.cell rfl) (a1.cell rfl)).mono ?_
 rintro e w2 ⟨rfl, rfl⟩
 rw [HP.out.1, HP.out.2]
 have hB2 : Below w.heap.size w (w1.alloc (.cells #[.int .u64 t, .int .u64 c] 23)) := (by repeat (first | with_reducible assumption | with_reducible exact Below.refl _ _ | with_reducible refine Below.drew ?_ | with_reducible refine Below.drewN ?_ _ | with_reducible refine Below.setCell ?_ (by first | omega | (simp; done) | (simp; omega)) _ | with_reducible refine Below.alloc ?_ (by first | omega | (simp; done) | (simp; omega) | (simp [World.setCell]; omega)) _))
 obtain ⟨W2, hW2⟩ : ∃ W2, w1.alloc (.cells #[.int .u64 t, .int .u64 c] 23) = W2 := ⟨_, rfl⟩
 have HB2 := Lib.hid hB2
 rw [hW2] at HB2
 try rw [hW2]
 clear hB2 hW2 hb a1 z1
 go_wp2_with fail
 refine (HSG.out W2).mono ?_
 rintro e w3 ⟨rfl, rfl⟩
 rw [show ((Int.natAbs 0 : Nat) : Int) = 0 from rfl, show decide ((0 : Int) < 0) = false from rfl]
 have s2 := s1.below HB2.out
 have f2 := s2.six
 have l2 := s2.lt
 clear HSG s1
 go_wp2_with fail
 refine (HIX.out W2 HB2.out).mono ?_
 rintro e w4 ⟨rfl, hb⟩
 have HB4 := Lib.hid (keep1 HB2.out hb)
 have s4 := s2.below hb
 have f4 := s4.six
 have l4 := s4.lt
 clear hb HB2 f2 l2 s2 HIX
 have HR : Hid (BaddR b (PB ++ (b :: (S0 ++ S1))) k part rep s most ps0 ps1 t0 t1 (zero + c) w (w4.setCell ⟨b, 5, none⟩ (.int .u64 (zero + c)))) :=
  ⟨_, GrownS.refl _ _, ⟨_, _, _, _, _, _, rfl, (H.out.below HB4.out).noughts⟩, ((Frame.of_below HB4.out).trans (Frame.refl _ _)).setc (.inl (by simp)) 5 _⟩
 clear s4 H
 go_wp2
 rw [HW.out]
 go_ret
 exact ⟨rfl, HR.out⟩
end Go.Proofs.YtlbnlmhcpephbaaGreatDoor

namespace Go.Proofs.YtlbnlmhcpephbaaGreatDoor
open Go.RowKit
def valZ (rep : Int → Int) (i : Int) (below : Bool) : Int := if below then -(rep i) else min (rep i) 9223372036854775807
theorem bvalue_at (PB : List Nat) (b : Nat) (k : Bool) (pa : Nat) (part : Nat → Int) (rep : Int → Int) (s : Bool) (most : Int) (c0 c1 : Nat) (S0 S1 : List Nat) (ps0 ps1 : List (Int × Int)) (t0 t1 zero i : Int) (below : Bool) (w : World)
  (h : BnB PB w b k pa part rep s most c0 c1 S0 S1 ps0 ps1 t0 t1 zero) (h1 : -9223372036854775808 ≤ i) (h2 : i ≤ 9223372036854775807) :
  Calls Tryz.prog 191 #[.pointer (some ⟨b, 0, none⟩), .int .i64 i, .bool below] w fun e w' => e = .returned (.int .i64 (valZ rep i below)) ∧ Below w.heap.size w w' := by
 have s1 := h.at'
 have hr := h.prt.hi i
 have HIX := Lib.hid (h.prt.rp w (Below.refl _ _) i h1 h2)
 have m1 := (pRep k).1
 have m2 := (pRep k).2
 have HV : Hid (valZ rep i below = if below then -(rep i) else min (rep i) 9223372036854775807) := rfl
 rw [HV.out]
 obtain ⟨pT, hpT⟩ : ∃ z, (pKnd k).T = z := ⟨_, rfl⟩
 obtain ⟨pF, hpF⟩ : ∃ z, (pKnd k).fR = z := ⟨_, rfl⟩
 rw [hpT] at s1 m1
 rw [hpF] at m1 m2 HIX
 obtain ⟨r, hre⟩ : ∃ r, rep i = r := ⟨_, rfl⟩
 rw [hre] at hr HIX ⊢
 have HSV := Lib.hid fun W => sgval_any r below W hr.1 (by omega)
 have hvm : (below = true ∧ valM r below = -r ∧ valOk r below = true) ∨ (below = false ∧ ((r ≤ 9223372036854775807 ∧ valM r below = r ∧ valOk r below = true) ∨ (r = 9223372036854775808 ∧ valM r below = 0 ∧ valOk r below = false))) := by
  cases below
  ·refine .inr ⟨rfl, ?_⟩
   unfold valM valOk
   by_cases h : r < 9223372036854775808
   ·exact .inl ⟨by omega, by simp [h], by simp [h]⟩
   ·exact .inr ⟨by omega, by simp [h], by simp [h]⟩
  ·refine .inl ⟨rfl, ?_, ?_⟩
   ·unfold valM; rw [if_pos rfl, if_pos hr.2]
   ·unfold valOk; rw [if_pos rfl]; exact decide_eq_true hr.2
 have f1 := s1.six
 have l1 := s1.lt
 clear h h1 h2 hpT hpF hre HV
 rcases hvm with ⟨rfl, e1, e2⟩ | ⟨rfl, ⟨hr3, e1, e2⟩ | ⟨rfl, e1, e2⟩⟩
 all_goals
  rw [e1, e2] at HSV
  clear e1 e2
 ·rw [if_pos rfl]
  clear hr
  go_enter Tryz.func191, Tryz.ntmps191
  go_wp2_with fail
  refine HIX.out.mono ?_
  rintro e w1 ⟨rfl, hb⟩
  have HB := Lib.hid hb
  clear hb HIX f1 l1 s1
  go_wp2_with fail
  refine (HSV.out w1).mono ?_
  rintro e w2 ⟨rfl, rfl⟩
  clear HSV
  go_wp2
  go_ret
  exact ⟨rfl, HB.out⟩
 ·have HM : Hid ((if (false : Bool) = true then -r else min r 9223372036854775807) = r) := by show _ = _; rw [if_neg (by simp)]; omega
  rw [HM.out]
  clear hr hr3 HM
  go_enter Tryz.func191, Tryz.ntmps191
  go_wp2_with fail
  refine HIX.out.mono ?_
  rintro e w1 ⟨rfl, hb⟩
  have HB := Lib.hid hb
  clear hb HIX f1 l1 s1
  go_wp2_with fail
  refine (HSV.out w1).mono ?_
  rintro e w2 ⟨rfl, rfl⟩
  clear HSV
  go_wp2
  go_ret
  exact ⟨rfl, HB.out⟩
 ·have HM : Hid ((if (false : Bool) = true then -(9223372036854775808 : Int) else min 9223372036854775808 9223372036854775807) = 9223372036854775807) := by show _ = _; rw [if_neg (by simp)]; omega
  rw [HM.out]
  clear hr HM
  go_enter Tryz.func191, Tryz.ntmps191
  go_wp2_with fail
  refine HIX.out.mono ?_
  rintro e w1 ⟨rfl, hb⟩
  have HB := Lib.hid hb
  clear hb HIX f1 l1 s1
  go_wp2_with fail
  refine (HSV.out w1).mono ?_
  rintro e w2 ⟨rfl, rfl⟩
  clear HSV
  go_wp2
  go_ret
  exact ⟨rfl, HB.out⟩
set_option maxRecDepth 100000 in
theorem blost_at (PB : List Nat) (b : Nat) (k : Bool) (pa : Nat) (part : Nat → Int) (rep : Int → Int) (s : Bool) (most : Int) (c0 c1 : Nat) (S0 S1 : List Nat) (ps0 ps1 : List (Int × Int)) (t0 t1 zero : Int) (w : World)
  (h : BnB PB w b k pa part rep s most c0 c1 S0 S1 ps0 ps1 t0 t1 zero) :
  Calls Tryz.prog 201 #[.pointer (some ⟨b, 0, none⟩)] w fun e w' => e = .returned (.tuple #[.int .u64 (t0 - sumP ps0), .int .u64 (t1 - sumP ps1)]) ∧ Below w.heap.size w w' := by
 have s1 := h.at'
 have HT0 := Lib.hid fun W (hb : Below w.heap.size w W) => (sto_lost s c0 S0 most t0 ps0 W (h.s0.below hb)).mono fun e w' (h : e = .returned (.int .u64 (t0 - sumP ps0)) ∧ W = w') => (⟨h.1, by rw [← h.2]; exact Below.refl _ _⟩ : e = .returned (.int .u64 (t0 - sumP ps0)) ∧ Below W.heap.size W w')
 have HT1 := Lib.hid fun W (hb : Below w.heap.size w W) => (sto_lost s c1 S1 most t1 ps1 W (h.s1.below hb)).mono fun e w' (h : e = .returned (.int .u64 (t1 - sumP ps1)) ∧ W = w') => (⟨h.1, by rw [← h.2]; exact Below.refl _ _⟩ : e = .returned (.int .u64 (t1 - sumP ps1)) ∧ Below W.heap.size W w')
 have m1 := (sLost s).1
 have m2 := (sLost s).2
 obtain ⟨u, hu⟩ : ∃ u, t0 - sumP ps0 = u := ⟨_, rfl⟩
 obtain ⟨v, hv⟩ : ∃ u, t1 - sumP ps1 = u := ⟨_, rfl⟩
 rw [hu] at HT0 ⊢
 rw [hv] at HT1 ⊢
 obtain ⟨sT, hsT⟩ : ∃ z, (sKnd s).T = z := ⟨_, rfl⟩
 obtain ⟨sF, hsF⟩ : ∃ z, (sKnd s).fL = z := ⟨_, rfl⟩
 rw [hsT] at s1 m1
 rw [hsF] at m1 m2 HT0 HT1
 clear h hsT hsF hu hv
 go_enter Tryz.func201, Tryz.ntmps201
 go_wp2
 have hfar1 := fun x : Far w => (x.at s1).six
 refine wp_region_far (by kernel_rfl) (by kernel_rfl) ?_
 repeat (first | go_big_quiet_skip | (go_big_quiet_want; go_big_quiet_op; first | go_big_quiet_on | (apply Exists.intro; refine ⟨fun _ => ?_, ?_⟩; (focus (first | (with_reducible refine far_of (HT0.out _ (Far.below _))) | (with_reducible refine far_of (HT1.out _ (Far.below _))))); go_big_quiet_on)))
 refine wpQuiet_nil ?_
 rintro _ ⟨xq, rfl⟩
 clear hfar1
 have hb := xq.below
 clear HT0 HT1 s1
 go_wp2
 go_ret2
 exact ⟨rfl, hb⟩
def BnW (b : Nat) (cs : Array Value) (W : World) : Prop := At W b cs 208
theorem BnW.at {b : Nat} {cs : Array Value} {W : World} (h : BnW b cs W) : At W b cs 208 := h
def RowsR (ps0 ps1 : List (Int × Int)) (w : World) (e : Ending) (w' : World) : Prop :=
 ∃ A0 c0 A1 c1, e = .returned (.tuple #[.slice A0 ps0.length c0, .slice A1 ps1.length c1]) ∧ RdP w' A0 ps0 ∧ RdP w' A1 ps1 ∧ Below w.heap.size w w'
set_option maxRecDepth 100000 in
set_option maxHeartbeats 2000000 in
theorem brows_at (PB : List Nat) (b : Nat) (k : Bool) (pa : Nat) (part : Nat → Int) (rep : Int → Int) (s : Bool) (most : Int) (c0 c1 : Nat) (S0 S1 : List Nat) (ps0 ps1 : List (Int × Int)) (t0 t1 zero : Int) (w : World)
  (h : BnB PB w b k pa part rep s most c0 c1 S0 S1 ps0 ps1 t0 t1 zero) :
  Calls Tryz.prog 200 #[.pointer (some ⟨b, 0, none⟩)] w fun e w' => RowsR ps0 ps1 w e w' := by
 have H := Lib.hid h
 have s1 := h.at'
 have HP0 := Lib.hid fun W => sto_pairs s c0 S0 most t0 ps0 W
 have HP1 := Lib.hid fun W => sto_pairs s c1 S1 most t1 ps1 W
 have m1 := (sPairs s).1
 have m2 := (sPairs s).2
 obtain ⟨n0, hn0⟩ : ∃ n, ps0.length = n := ⟨_, rfl⟩
 obtain ⟨n1, hn1⟩ : ∃ n, ps1.length = n := ⟨_, rfl⟩
 have HN := Lib.hid (And.intro hn0 hn1)
 obtain ⟨sT, hsT⟩ : ∃ z, (sKnd s).T = z := ⟨_, rfl⟩
 obtain ⟨sF, hsF⟩ : ∃ z, (sKnd s).fP = z := ⟨_, rfl⟩
 rw [hsT] at s1 m1
 rw [hsF] at m1 m2 HP0 HP1
 obtain ⟨pv, hpv⟩ : ∃ v : Value, .iface (pKnd k).T (.pointer (some ⟨pa, 0, none⟩)) = v := ⟨_, rfl⟩
 obtain ⟨sz, hsz⟩ : ∃ v : Value, .int .i64 (sideZ s) = v := ⟨_, rfl⟩
 rw [hpv, hsz] at s1
 clear h hn0 hn1 hsT hsF hpv hsz
 go_enter Tryz.func200, Tryz.ntmps200
 go_wp2
 have H1 : Hid (BnB PB w.drew b k pa part rep s most c0 c1 S0 S1 ps0 ps1 t0 t1 zero) := H.out.below (Below.refl _ _).drew
 have HB1 : Hid (Below w.heap.size w w.drew) := (Below.refl _ _).drew
 have s2 := s1.drew
 obtain ⟨W1, hW1⟩ : ∃ W, w.drew = W := ⟨_, rfl⟩
 rw [hW1] at H1 HB1 s2
 clear s1 H
 have hHeld : HeldS (BnW b #[pv, sz, .int .i64 most, .iface sT (.pointer (some ⟨c0, 0, none⟩)), .iface sT (.pointer (some ⟨c1, 0, none⟩)), .int .u64 zero]) W1 := HeldS.mk' s2
 haveI hne : Nonempty (Held (BnW b #[pv, sz, .int .i64 most, .iface sT (.pointer (some ⟨c0, 0, none⟩)), .iface sT (.pointer (some ⟨c1, 0, none⟩)), .int .u64 zero])) := ⟨⟨W1, s2⟩⟩
 have hfar := fun x : Held (BnW b #[pv, sz, .int .i64 most, .iface sT (.pointer (some ⟨c0, 0, none⟩)), .iface sT (.pointer (some ⟨c1, 0, none⟩)), .int .u64 zero]) => x.held.at.six
 refine wp_region_noPanic ?_
 refine wp_region_held_drew (S := HeldS (BnW b #[pv, sz, .int .i64 most, .iface sT (.pointer (some ⟨c0, 0, none⟩)), .iface sT (.pointer (some ⟨c1, 0, none⟩)), .int .u64 zero])) (by kernel_rfl) (by rw [hW1]; exact hHeld) (fun _ => ?_)
 rw [hW1]
 clear hW1
 refine wpAnyH_run0 [true, true, true, true, false, true, true, true, true] 4 (by kernel_rfl) (by kernel_rfl) (fun _ _ _ _ h => h) (by kernel_rfl) hHeld ?_
 simp only [runOps_true, runOps_false, runOps_nil]
 repeat (first | go_big_quiet_skip | (go_big_quiet_want; go_big_quiet_op; go_big_quiet_on))
 refine wpQuiet_nil ?_
 clear hfar hne
 refine wpAnyH_ready (rs := [4]) (by kernel_rfl) (by simp) ?_
 refine AllReadyH.cons rfl (fun K hK => ?_) (AllReadyH.nil)
 go_simp
 go_wp2_with fail
 refine (HP0.out W1 H1.out.s0).mono ?_
 rintro e w5 ⟨A0, k0, rfl, hO, hb⟩
 dsimp only
 refine hK.out _ _ (HeldS.mk' (s2.below hb)) (fun hHeld => ?_)
 clear hK K
 have H5 := Lib.hid (H1.out.below hb)
 have HB5 := Lib.hid (keep1 HB1.out hb)
 have HR0 := Lib.hid hO.rd
 have s5 := s2.below hb
 clear hO hb s2 H1 HB1 HP0
 refine wpAnyH_ready (rs := [9]) (by kernel_rfl) (by simp) ?_
 refine AllReadyH.cons rfl (fun K hK => ?_) (AllReadyH.nil)
 go_simp
 go_wp2_with fail
 refine (HP1.out w5 H5.out.s1).mono ?_
 rintro e w6 ⟨A1, k1, rfl, hO, hb⟩
 dsimp only
 refine hK.out _ _ (HeldS.mk' (s5.below hb)) (fun hHeld => ?_)
 clear hK K
 have HB6 := Lib.hid (keep1 HB5.out hb)
 have HR0' := Lib.hid (HR0.out.below hb)
 have HR1 := Lib.hid hO.rd
 clear hO hb H5 HB5 HR0 s5 HP1
 refine wpAnyH_run0 [false, false, false, false, false, false, false, false, false, false, true, true] 0 (by kernel_rfl) (by kernel_rfl) (fun _ _ _ _ h => h) (by kernel_rfl) hHeld ?_
 simp only [runOps_true, runOps_false, runOps_nil]
 repeat (first | go_big_quiet_skip | (go_big_quiet_want; go_big_quiet_op; go_big_quiet_on))
 refine wpQuiet_nil ?_
 refine wpAnyH_done (by kernel_rfl) ?_ _
 refine NoPanic.normal ?_
 clear hHeld
 have HRR : Hid (∀ v, v = Ending.returned (.tuple #[.slice A0 n0 k0, .slice A1 n1 k1]) → RowsR ps0 ps1 w v w6) := fun v hv => ⟨A0, k0, A1, k1, by rw [hv, HN.out.1, HN.out.2], HR0'.out, HR1.out, HB6.out⟩
 rw [HN.out.1, HN.out.2]
 clear HN HR0' HR1 HB6
 go_wp2
 go_ret2
 exact HRR.out _ rfl
theorem bzero_at (b : Nat) (v0 v1 v2 v3 v4 : Value) (zero : Int) (w : World) (h : At w b #[v0, v1, v2, v3, v4, .int .u64 zero] 208) :
  Calls Tryz.prog 203 #[.pointer (some ⟨b, 0, none⟩)] w fun e w' => e = .returned (.int .u64 zero) ∧ w = w' := by
 have f1 := h.six
 clear h
 go_enter Tryz.func203, Tryz.ntmps203
 go_wp2
 go_ret
 exact ⟨rfl, rfl⟩
theorem blike_at (b o : Nat) (v0 v3 v4 v5 u0 u3 u4 u5 : Value) (z most most' : Int) (w : World) (h : At w b #[v0, .int .i64 z, .int .i64 most, v3, v4, v5] 208) (h' : At w o #[u0, .int .i64 z, .int .i64 most', u3, u4, u5] 208) :
  Calls Tryz.prog 207 #[.pointer (some ⟨b, 0, none⟩), .pointer (some ⟨o, 0, none⟩)] w fun e w' => e = .returned (.bool (decide (most = most'))) ∧ Below w.heap.size w w' := by
 have hzz : (z == z) = true := beq_self_eq_true z
 by_cases hm : most = most'
 ·have hmm : (most == most') = true := beq_iff_eq.2 hm
  rw [decide_eq_true hm]
  clear hm
  go_enter Tryz.func207, Tryz.ntmps207
  go_wp2
  have hfar1 := fun x : Far w => (x.at h).six
  have hfar2 := fun x : Far w => (x.at h').six
  refine wp_region_far (by kernel_rfl) (by kernel_rfl) ?_
  repeat (first | go_big_quiet_skip | (go_big_quiet_want; go_big_quiet_op; first | go_big_quiet_on | (apply Exists.intro; refine ⟨fun _ => ?_, ?_⟩; (focus (first | (fail))); go_big_quiet_on)))
  refine wpQuiet_nil ?_
  rintro _ ⟨xq, rfl⟩
  clear hfar1 hfar2
  have hb := xq.below
  go_wp2
  go_ret
  exact ⟨rfl, hb⟩
 ·have hmm : (most == most') = false := beq_eq_false_iff_ne.2 hm
  rw [decide_eq_false hm]
  clear hm
  go_enter Tryz.func207, Tryz.ntmps207
  go_wp2
  have hfar1 := fun x : Far w => (x.at h).six
  have hfar2 := fun x : Far w => (x.at h').six
  refine wp_region_far (by kernel_rfl) (by kernel_rfl) ?_
  repeat (first | go_big_quiet_skip | (go_big_quiet_want; go_big_quiet_op; first | go_big_quiet_on | (apply Exists.intro; refine ⟨fun _ => ?_, ?_⟩; (focus (first | (fail))); go_big_quiet_on)))
  refine wpQuiet_nil ?_
  rintro _ ⟨xq, rfl⟩
  clear hfar1 hfar2
  have hb := xq.below
  go_wp2
  go_ret
  exact ⟨rfl, hb⟩
end Go.Proofs.YtlbnlmhcpephbaaGreatDoor

namespace Go.Proofs.YtlbnlmhcpephbaaGreatDoor
open Go.RowKit
def binFind (rep : Int → Int) (s : Bool) (ps0 ps1 : List (Int × Int)) (t0 t1 zero t : Int) : Option Int :=
 if t = 0 ∨ t0 + zero + t1 < t then none
 else if t ≤ t0 then (stoFind s (t0 - sumP ps0) ps0 (t0 - t + 1)).map fun i => valZ rep i true
 else if t - t0 ≤ zero then some 0
 else (stoFind s (t1 - sumP ps1) ps1 (t - t0 - zero)).map fun i => valZ rep i false
theorem stoFind_mem {s : Bool} {lo t i : Int} {ps : List (Int × Int)} (h : stoFind s lo ps t = some i) : ∃ x ∈ ps, x.1 = i := by
 cases s
 ·exact Hi.findP_mem h
 ·unfold stoFind Lo.lowFind at h
  dsimp only at h
  split at h
  ·cases h
  ·exact Lo.findP_mem h
set_option maxRecDepth 100000 in
set_option maxHeartbeats 4000000 in
theorem bfind_at (PB : List Nat) (b : Nat) (k : Bool) (pa : Nat) (part : Nat → Int) (rep : Int → Int) (s : Bool) (most : Int) (c0 c1 : Nat) (S0 S1 : List Nat) (ps0 ps1 : List (Int × Int)) (t0 t1 zero t : Int) (w : World)
  (h : BnB PB w b k pa part rep s most c0 c1 S0 S1 ps0 ps1 t0 t1 zero) (hz : 0 ≤ zero) (hT : t0 + zero + t1 ≤ 9223372036854775807) (ht : 0 ≤ t ∧ t < 18446744073709551616) :
  Calls Tryz.prog 187 #[.pointer (some ⟨b, 0, none⟩), .int .u64 t] w fun e w' => e = .returned (optI (binFind rep s ps0 ps1 t0 t1 zero t)) ∧ Below w.heap.size w w' := by
 have p0 := h.s0.sums
 have p1 := h.s1.sums
 have H := Lib.hid h
 have HTO := Lib.hid (btot_at _ _ _ _ _ _ _ _ _ _ _ _ _ _ _ _ _ _ w h hz rfl hT)
 have HT0 := Lib.hid fun W (hb : Below w.heap.size w W) => sto_total s c0 S0 most t0 ps0 W (h.s0.below hb)
 have HE : Hid (binFind rep s ps0 ps1 t0 t1 zero t = if t = 0 ∨ t0 + zero + t1 < t then none else if t ≤ t0 then (stoFind s (t0 - sumP ps0) ps0 (t0 - t + 1)).map fun i => valZ rep i true else if t - t0 ≤ zero then some 0 else (stoFind s (t1 - sumP ps1) ps1 (t - t0 - zero)).map fun i => valZ rep i false) := rfl
 rw [HE.out]
 have s1 := h.at'
 have m1 := (sTotal s).1
 have m2 := (sTotal s).2
 have m3 := (sFind s).1
 have m4 := (sFind s).2
 have HSF0 := Lib.hid fun (ht' : 0 ≤ t0 - t + 1 ∧ t0 - t + 1 < 18446744073709551616) W (hb : Below w.heap.size w W) => sto_find s c0 S0 most t0 (t0 - t + 1) ps0 W (h.s0.below hb) ht'
 have HSF1 := Lib.hid fun (ht' : 0 ≤ t - t0 - zero ∧ t - t0 - zero < 18446744073709551616) W (hb : Below w.heap.size w W) => sto_find s c1 S1 most t1 (t - t0 - zero) ps1 W (h.s1.below hb) ht'
 have HOK0 := Lib.hid h.s0.ok
 have HOK1 := Lib.hid h.s1.ok
 obtain ⟨sT, hsT⟩ : ∃ z, (sKnd s).T = z := ⟨_, rfl⟩
 obtain ⟨sF, hsF⟩ : ∃ z, (sKnd s).fT = z := ⟨_, rfl⟩
 obtain ⟨sG, hsG⟩ : ∃ z, (sKnd s).fF = z := ⟨_, rfl⟩
 rw [hsT] at s1 m1 m3
 rw [hsF] at m1 m2 HT0
 rw [hsG] at m3 m4 HSF0 HSF1
 obtain ⟨T, hTT⟩ : ∃ T, t0 + zero + t1 = T := ⟨_, rfl⟩
 rw [hTT] at HTO ⊢
 have HB0 : Hid (0 ≤ t0 ∧ 0 ≤ t1 ∧ 0 ≤ zero ∧ t0 + zero + t1 = T ∧ T ≤ 9223372036854775807 ∧ 0 ≤ t ∧ t < 18446744073709551616) := ⟨by omega, by omega, hz, hTT, by omega, ht.1, ht.2⟩
 clear h hsT hsF hsG p0 p1 HE hTT hT hz
 by_cases ht0 : t = 0
 ·subst ht0
  rw [if_pos (.inl rfl)]
  clear ht HSF0 HSF1 HT0 HTO
  go_enter Tryz.func187, Tryz.ntmps187
  go_wp2
  go_ret2
  exact ⟨rfl, Below.refl _ _⟩
 ·have ht0' : (t == 0) = false := beq_eq_false_iff_ne.2 ht0
  by_cases hTt : T < t
  ·have hd : decide (T < t) = true := decide_eq_true hTt
   rw [if_pos (.inr hTt)]
   clear ht HSF0 HSF1 HT0 hTt ht0
   go_enter Tryz.func187, Tryz.ntmps187
   go_wp2_with fail
   refine HTO.out.mono ?_
   rintro e w1 ⟨rfl, hb⟩
   clear HTO s1
   go_wp2
   go_ret2
   exact ⟨rfl, hb⟩
  ·have hd : decide (T < t) = false := decide_eq_false hTt
   rw [if_neg (by omega)]
   by_cases h1 : t ≤ t0
   ·have hd1 : decide (t ≤ t0) = true := decide_eq_true h1
    rw [if_pos h1]
    have v1 : IntKind.u64.wrap (t0 - t) = t0 - t := by simp only [IntKind.wrap_u64]; have := HB0.out; omega
    have v2 : IntKind.u64.wrap (t0 - t + 1) = t0 - t + 1 := by simp only [IntKind.wrap_u64]; have := HB0.out; omega
    have HF := Lib.hid (HSF0.out (by have := HB0.out; omega))
    clear HSF0 HSF1 ht hTt h1 ht0
    obtain ⟨o, ho⟩ : ∃ o, stoFind s (t0 - sumP ps0) ps0 (t0 - t + 1) = o := ⟨_, rfl⟩
    rw [ho] at HF ⊢
    cases o with
    | none =>
     have HF' : Hid (∀ W, Below w.heap.size w W → Calls Tryz.prog sG #[.pointer (some ⟨c0, 0, none⟩), .int .u64 (t0 - t + 1)] W fun e w' => e = .returned (.tuple #[.int .i64 0, .bool false]) ∧ Below W.heap.size W w') := HF.out
     replace HF := HF'
     show Calls _ _ _ _ (fun e w' => e = .returned (.tuple #[.int .i64 0, .bool false]) ∧ _)
     clear HF'
     go_enter Tryz.func187, Tryz.ntmps187
     go_wp2_with fail
     refine HTO.out.mono ?_
     rintro e w1 ⟨rfl, hb⟩
     have HB1 := Lib.hid hb
     have s2 := s1.below hb
     have f2 := s2.six
     have l2 := s2.lt
     clear HTO s1 hb
     go_wp2_with fail
     refine (HT0.out w1 HB1.out).mono ?_
     rintro e w2 ⟨rfl, hb⟩
     have HB2 := Lib.hid (keep1 HB1.out hb)
     have s3 := s2.below hb
     have f3 := s3.six
     have l3 := s3.lt
     clear HT0 hb s2 f2 l2
     go_wp2_with fail
     refine (HF.out w2 HB2.out).mono ?_
     rintro e w3 ⟨rfl, hb⟩
     have HB3 := Lib.hid (keep1 HB2.out hb)
     clear hb HF s3 f3 l3
     go_wp2
     go_ret2
     exact ⟨rfl, HB3.out⟩
    | some i =>
     have HI := Lib.hid (stoFind_mem ho)
     have HIR : Hid (-9223372036854775808 ≤ i ∧ i ≤ 9223372036854775807) := by
      obtain ⟨x, hx, rfl⟩ := HI.out
      exact (HOK0.out x hx).1
     have HF' : Hid (∀ W, Below w.heap.size w W → Calls Tryz.prog sG #[.pointer (some ⟨c0, 0, none⟩), .int .u64 (t0 - t + 1)] W fun e w' => e = .returned (.tuple #[.int .i64 i, .bool true]) ∧ Below W.heap.size W w') := HF.out
     replace HF := HF'
     show Calls _ _ _ _ (fun e w' => e = .returned (.tuple #[.int .i64 (valZ rep i true), .bool true]) ∧ _)
     have HVL := Lib.hid fun W (hb : Below w.heap.size w W) => bvalue_at _ _ _ _ _ _ _ _ _ _ _ _ _ _ _ _ _ i true W (H.out.below hb) HIR.out.1 HIR.out.2
     clear HF' ho HI
     go_enter Tryz.func187, Tryz.ntmps187
     go_wp2_with fail
     refine HTO.out.mono ?_
     rintro e w1 ⟨rfl, hb⟩
     have HB1 := Lib.hid hb
     have s2 := s1.below hb
     have f2 := s2.six
     have l2 := s2.lt
     clear HTO s1 hb
     go_wp2_with fail
     refine (HT0.out w1 HB1.out).mono ?_
     rintro e w2 ⟨rfl, hb⟩
     have HB2 := Lib.hid (keep1 HB1.out hb)
     have s3 := s2.below hb
     have f3 := s3.six
     have l3 := s3.lt
     clear HT0 hb s2 f2 l2
     go_wp2_with fail
     refine (HF.out w2 HB2.out).mono ?_
     rintro e w3 ⟨rfl, hb⟩
     have HB3 := Lib.hid (keep1 HB2.out hb)
     clear hb HF s3 f3 l3
     go_wp2_with fail
     refine (HVL.out w3 HB3.out).mono ?_
     rintro e w4 ⟨rfl, hb⟩
     have HB4 := Lib.hid (keep1 HB3.out hb)
     clear hb HVL
     go_wp2
     go_ret2
     exact ⟨rfl, HB4.out⟩
   ·rw [if_neg h1]
    have hd1 : decide (t ≤ t0) = false := decide_eq_false h1
    have v1 : IntKind.u64.wrap (t - t0) = t - t0 := by simp only [IntKind.wrap_u64]; have := HB0.out; omega
    by_cases h2 : t - t0 ≤ zero
    ·have hd2 : decide (t - t0 ≤ zero) = true := decide_eq_true h2
     rw [if_pos h2]
     clear HSF0 HSF1 ht hTt h1 ht0 h2
     go_enter Tryz.func187, Tryz.ntmps187
     go_wp2_with fail
     refine HTO.out.mono ?_
     rintro e w1 ⟨rfl, hb⟩
     have HB1 := Lib.hid hb
     have s2 := s1.below hb
     have f2 := s2.six
     have l2 := s2.lt
     clear HTO s1 hb
     go_wp2_with fail
     refine (HT0.out w1 HB1.out).mono ?_
     rintro e w2 ⟨rfl, hb⟩
     have HB2 := Lib.hid (keep1 HB1.out hb)
     have s3 := s2.below hb
     have f3 := s3.six
     have l3 := s3.lt
     clear HT0 hb s2 f2 l2
     go_wp2
     go_ret2
     exact ⟨rfl, HB2.out⟩
    ·have hd2 : decide (t - t0 ≤ zero) = false := decide_eq_false h2
     rw [if_neg h2]
     have v2 : IntKind.u64.wrap (t - t0 - zero) = t - t0 - zero := by simp only [IntKind.wrap_u64]; have := HB0.out; omega
     have HF := Lib.hid (HSF1.out (by have := HB0.out; omega))
     clear HSF0 HSF1 ht hTt h1 ht0 h2
     obtain ⟨o, ho⟩ : ∃ o, stoFind s (t1 - sumP ps1) ps1 (t - t0 - zero) = o := ⟨_, rfl⟩
     rw [ho] at HF ⊢
     cases o with
     | none =>
      have HF' : Hid (∀ W, Below w.heap.size w W → Calls Tryz.prog sG #[.pointer (some ⟨c1, 0, none⟩), .int .u64 (t - t0 - zero)] W fun e w' => e = .returned (.tuple #[.int .i64 0, .bool false]) ∧ Below W.heap.size W w') := HF.out
      replace HF := HF'
      show Calls _ _ _ _ (fun e w' => e = .returned (.tuple #[.int .i64 0, .bool false]) ∧ _)
      clear HF'
      go_enter Tryz.func187, Tryz.ntmps187
      go_wp2_with fail
      refine HTO.out.mono ?_
      rintro e w1 ⟨rfl, hb⟩
      have HB1 := Lib.hid hb
      have s2 := s1.below hb
      have f2 := s2.six
      have l2 := s2.lt
      clear HTO s1 hb
      go_wp2_with fail
      refine (HT0.out w1 HB1.out).mono ?_
      rintro e w2 ⟨rfl, hb⟩
      have HB2 := Lib.hid (keep1 HB1.out hb)
      have s3 := s2.below hb
      have f3 := s3.six
      have l3 := s3.lt
      clear HT0 hb s2 f2 l2
      have HF3 := Lib.hid fun W (hb : Below w2.heap.size w2 W) => HF.out W (keep1 HB2.out hb)
      clear HF
      go_wp2
      have hfar1 := fun x : Far w2 => (x.at s3).six
      refine wp_region_far (by kernel_rfl) (by kernel_rfl) ?_
      repeat (first | go_big_quiet_skip | (go_big_quiet_want; go_big_quiet_op; first | go_big_quiet_on | (apply Exists.intro; refine ⟨fun _ => ?_, ?_⟩; (focus (first | (with_reducible refine far_of (HF3.out _ (Far.below _))))); go_big_quiet_on)))
      refine wpQuiet_nil ?_
      rintro _ ⟨xq, rfl⟩
      clear hfar1
      have hbf := xq.below
      obtain ⟨w3, hw3⟩ : ∃ w3, xq.far = w3 := ⟨_, rfl⟩
      rw [hw3] at hbf ⊢
      have HB3 := Lib.hid (keep1 HB2.out hbf)
      clear hw3 xq hbf HF3 s3 f3 l3
      go_wp2
      go_ret2
      exact ⟨rfl, HB3.out⟩
     | some i =>
      have HI := Lib.hid (stoFind_mem ho)
      have HIR : Hid (-9223372036854775808 ≤ i ∧ i ≤ 9223372036854775807) := by
       obtain ⟨x, hx, rfl⟩ := HI.out
       exact (HOK1.out x hx).1
      have HF' : Hid (∀ W, Below w.heap.size w W → Calls Tryz.prog sG #[.pointer (some ⟨c1, 0, none⟩), .int .u64 (t - t0 - zero)] W fun e w' => e = .returned (.tuple #[.int .i64 i, .bool true]) ∧ Below W.heap.size W w') := HF.out
      replace HF := HF'
      show Calls _ _ _ _ (fun e w' => e = .returned (.tuple #[.int .i64 (valZ rep i false), .bool true]) ∧ _)
      have HVL := Lib.hid fun W (hb : Below w.heap.size w W) => bvalue_at _ _ _ _ _ _ _ _ _ _ _ _ _ _ _ _ _ i false W (H.out.below hb) HIR.out.1 HIR.out.2
      clear HF' ho HI
      go_enter Tryz.func187, Tryz.ntmps187
      go_wp2_with fail
      refine HTO.out.mono ?_
      rintro e w1 ⟨rfl, hb⟩
      have HB1 := Lib.hid hb
      have s2 := s1.below hb
      have f2 := s2.six
      have l2 := s2.lt
      clear HTO s1 hb
      go_wp2_with fail
      refine (HT0.out w1 HB1.out).mono ?_
      rintro e w2 ⟨rfl, hb⟩
      have HB2 := Lib.hid (keep1 HB1.out hb)
      have s3 := s2.below hb
      have f3 := s3.six
      have l3 := s3.lt
      clear HT0 hb s2 f2 l2
      have HF3 := Lib.hid fun W (hb : Below w2.heap.size w2 W) => HF.out W (keep1 HB2.out hb)
      clear HF
      go_wp2
      have hfar1 := fun x : Far w2 => (x.at s3).six
      refine wp_region_far (by kernel_rfl) (by kernel_rfl) ?_
      repeat (first | go_big_quiet_skip | (go_big_quiet_want; go_big_quiet_op; first | go_big_quiet_on | (apply Exists.intro; refine ⟨fun _ => ?_, ?_⟩; (focus (first | (with_reducible refine far_of (HF3.out _ (Far.below _))))); go_big_quiet_on)))
      refine wpQuiet_nil ?_
      rintro _ ⟨xq, rfl⟩
      clear hfar1
      have hbf := xq.below
      obtain ⟨w3, hw3⟩ : ∃ w3, xq.far = w3 := ⟨_, rfl⟩
      rw [hw3] at hbf ⊢
      have HB3 := Lib.hid (keep1 HB2.out hbf)
      clear hw3 xq hbf HF3 s3 f3 l3
      go_wp2_with fail
      refine (HVL.out w3 HB3.out).mono ?_
      rintro e w4 ⟨rfl, hb⟩
      have HB4 := Lib.hid (keep1 HB3.out hb)
      clear hb HVL
      go_wp2
      go_ret2
      exact ⟨rfl, HB4.out⟩
end Go.Proofs.YtlbnlmhcpephbaaGreatDoor

namespace Go.Proofs.YtlbnlmhcpephbaaGreatDoor
open Go.RowKit
def binRank (part : Nat → Int) (s : Bool) (most : Int) (ps0 ps1 : List (Int × Int)) (t0 t1 zero x : Int) : Int × Int :=
 if x = 0 then (t0 + zero, t0 + zero)
 else if x < 0 then (t0 - (stoBelow s most (t0 - sumP ps0) ps0 (part x.natAbs)).2, t0 - (stoBelow s most (t0 - sumP ps0) ps0 (part x.natAbs - 1)).1)
 else (t0 + zero + (stoBelow s most (t1 - sumP ps1) ps1 (part x.natAbs - 1)).1, t0 + zero + (stoBelow s most (t1 - sumP ps1) ps1 (part x.natAbs)).2)
end Go.Proofs.YtlbnlmhcpephbaaGreatDoor

namespace Go.Proofs.YtlbnlmhcpephbaaGreatDoor
open Go.RowKit
theorem asLow (b : Nat) (w : World) : (Instr.typeAssert (.iface 242 (.pointer (some ⟨b, 0, none⟩))) 204 242 true).run Tryz.prog w = .ok (.tuple #[.pointer (some ⟨b, 0, none⟩), .bool true]) w := by kernel_rfl
theorem asLow' (b : Nat) (w : World) : (Instr.typeAssert (.iface 242 (.pointer (some ⟨b, 0, none⟩))) 204 242 false).run Tryz.prog w = .ok (.pointer (some ⟨b, 0, none⟩)) w := by kernel_rfl
theorem asHigh0 (b : Nat) (w : World) : (Instr.typeAssert (.iface 239 (.pointer (some ⟨b, 0, none⟩))) 204 242 true).run Tryz.prog w = .ok (.tuple #[.pointer none, .bool false]) w := by kernel_rfl
theorem asHigh (b : Nat) (w : World) : (Instr.typeAssert (.iface 239 (.pointer (some ⟨b, 0, none⟩))) 204 239 true).run Tryz.prog w = .ok (.tuple #[.pointer (some ⟨b, 0, none⟩), .bool true]) w := by kernel_rfl
theorem asHigh' (b : Nat) (w : World) : (Instr.typeAssert (.iface 239 (.pointer (some ⟨b, 0, none⟩))) 204 239 false).run Tryz.prog w = .ok (.pointer (some ⟨b, 0, none⟩)) w := by kernel_rfl
set_option maxRecDepth 100000 in
theorem merge_any (s : Bool) (b o : Nat) (S So : List Nat) (most T U : Int) (ps qs : List (Int × Int)) (w : World) (h : Sto w s b S most ps T) (k : Sto w s o So most qs U) (hT : T + U ≤ 9223372036854775807) :
  Calls Tryz.prog 208 #[.iface (sKnd s).T (.pointer (some ⟨b, 0, none⟩)), .iface (sKnd s).T (.pointer (some ⟨o, 0, none⟩))] w fun e w' => e = .returned (.tuple #[]) ∧ StoA s b S most (capAll s most ps qs) (T + U) w w' := by
 cases s
 ·have HM := Lib.hid (Hi.lmerge_any b o S So most T U ps qs w h k hT)
  have a1 := asHigh0 b
  have a2 := asHigh b
  have a3 := asHigh' o
  show Calls _ _ #[.iface 239 _, .iface 239 _] _ _
  clear h k hT
  go_enter Tryz.func208, Tryz.ntmps208
  go_wp2_with fail
  refine HM.out.mono ?_
  rintro e w1 ⟨rfl, hA⟩
  have HA : Hid (StoA false b S most (capAll false most ps qs) (T + U) w w1) := hA
  clear hA HM
  go_wp2
  exact bodyPost_end (results_none rfl _ _ _) rfl ⟨rfl, HA.out⟩
 ·have HM := Lib.hid (Lo.lmerge_any b o S So most T U ps qs w h k hT)
  have a1 := asLow b
  have a2 := asLow' o
  show Calls _ _ #[.iface 242 _, .iface 242 _] _ _
  clear h k hT
  go_enter Tryz.func208, Tryz.ntmps208
  go_wp2_with fail
  refine HM.out.mono ?_
  rintro e w1 ⟨rfl, hA⟩
  have HA : Hid (StoA true b S most (capAll true most ps qs) (T + U) w w1) := hA
  clear hA HM
  go_wp2
  exact bodyPost_end (results_none rfl _ _ _) rfl ⟨rfl, HA.out⟩
def BnWW (b o : Nat) (cs ds : Array Value) (W : World) : Prop := At W b cs 208 ∧ At W o ds 208
theorem BnWW.a {b o : Nat} {cs ds : Array Value} {W : World} (h : BnWW b o cs ds W) : At W b cs 208 := h.1
theorem BnWW.b {b o : Nat} {cs ds : Array Value} {W : World} (h : BnWW b o cs ds W) : At W o ds 208 := h.2
set_option maxRecDepth 100000 in
set_option maxHeartbeats 4000000 in
theorem bmerge_at (PB : List Nat) (b : Nat) (k : Bool) (pa : Nat) (part : Nat → Int) (rep : Int → Int) (s : Bool) (most : Int) (c0 c1 : Nat) (S0 S1 : List Nat) (ps0 ps1 : List (Int × Int)) (t0 t1 zero t : Int)
  (PB' : List Nat) (o : Nat) (k' : Bool) (pa' : Nat) (part' : Nat → Int) (rep' : Int → Int) (d0 d1 : Nat) (U0 U1 : List Nat) (qs0 qs1 : List (Int × Int)) (u0 u1 zero2 u : Int) (w : World)
  (h : BnB PB w b k pa part rep s most c0 c1 S0 S1 ps0 ps1 t0 t1 zero) (h' : BnB PB' w o k' pa' part' rep' s most d0 d1 U0 U1 qs0 qs1 u0 u1 zero2) (hap : Apart (PB ++ (b :: (S0 ++ S1))) (PB' ++ (o :: (U0 ++ U1))))
  (hz : 0 ≤ zero) (hz2 : 0 ≤ zero2) (he : t0 + zero + t1 = t) (he2 : u0 + zero2 + u1 = u) (hf : t + u ≤ 9223372036854775807) :
  Calls Tryz.prog 205 #[.pointer (some ⟨b, 0, none⟩), .pointer (some ⟨o, 0, none⟩)] w fun e w' => e = .returned (.int .i64 0) ∧
   BaddR b (PB ++ (b :: (S0 ++ S1))) k part rep s most (capAll s most ps0 qs0) (capAll s most ps1 qs1) (t0 + u0) (t1 + u1) (zero + zero2) w w' := by
 have p0 := h.s0.sums
 have p1 := h.s1.sums
 have q0 := h'.s0.sums
 have q1 := h'.s1.sums
 have H := Lib.hid h
 have K' := Lib.hid h'
 have HAP := Lib.hid hap
 have HTB := Lib.hid fun W (hb : Below w.heap.size w W) => btot_at _ _ _ _ _ _ _ _ _ _ _ _ _ _ _ _ _ _ W (h.below hb) hz he (by omega)
 have HTO := Lib.hid fun W (hb : Below w.heap.size w W) => btot_at _ _ _ _ _ _ _ _ _ _ _ _ _ _ _ _ _ _ W (h'.below hb) hz2 he2 (by omega)
 have HL := Lib.hid (blike_at b o _ _ _ _ _ _ _ _ _ most most w h.at' h'.at')
 rw [decide_eq_true rfl] at HL
 have HB0 : Hid (0 ≤ t ∧ 0 ≤ u ∧ t + u ≤ 9223372036854775807 ∧ t0 + u0 ≤ 9223372036854775807 ∧ t1 + u1 ≤ 9223372036854775807 ∧ 0 ≤ zero ∧ 0 ≤ zero2 ∧ zero + zero2 ≤ 9223372036854775807) := ⟨by omega, by omega, hf, by omega, by omega, hz, hz2, by omega⟩
 obtain ⟨r1, r2⟩ := plus2_yes (a := t) (b := u) (by omega)
 have HP := Lib.hid (And.intro r1 r2)
 clear h h' hap p0 p1 q0 q1 hz hz2 he he2 hf r1 r2
 go_enter Tryz.func205, Tryz.ntmps205
 go_wp2_with fail
 refine HL.out.mono ?_
 rintro e w1 ⟨rfl, hb⟩
 have HB1 := Lib.hid hb
 clear hb HL
 go_wp2_with fail
 refine (HTB.out w1 HB1.out).mono ?_
 rintro e w2 ⟨rfl, hb⟩
 have HB2 := Lib.hid (keep1 HB1.out hb)
 clear hb HB1 HTB
 go_wp2_with fail
 refine (HTO.out w2 HB2.out).mono ?_
 rintro e w3 ⟨rfl, hb⟩
 have hB3 := keep1 HB2.out hb
 have z3 := hB3.size
 clear hb HB2 HTO
 go_wp2_with fail
 have a1 := At.new w3 #[.int .u64 t, .int .u64 u] 23
 refine (plus2_any w3.heap.size t u _ (by have := HB0.out; omega) (by have := HB0.out; omega) (by have := HB0.out; omega) (by have := HB0.out; omega) (a1.cell rfl) (a1.cell rfl)).mono ?_
 rintro e w4 ⟨rfl, rfl⟩
 rw [HP.out.1, HP.out.2]
 have hB4 : Below w.heap.size w (w3.alloc (.cells #[.int .u64 t, .int .u64 u] 23)).drew := (by repeat (first | with_reducible assumption | with_reducible exact Below.refl _ _ | with_reducible refine Below.drew ?_ | with_reducible refine Below.drewN ?_ _ | with_reducible refine Below.setCell ?_ (by first | omega | (simp; done) | (simp; omega)) _ | with_reducible refine Below.alloc ?_ (by first | omega | (simp; done) | (simp; omega) | (simp [World.setCell]; omega)) _))
 go_wp2
 obtain ⟨W4, hW4⟩ : ∃ W, (w3.alloc (.cells #[.int .u64 t, .int .u64 u] 23)).drew = W := ⟨_, rfl⟩
 rw [hW4] at hB4
 have HB4 := Lib.hid hB4
 have H4 := Lib.hid (H.out.below hB4)
 have K4 := Lib.hid (K'.out.below hB4)
 obtain ⟨pv, hpv⟩ : ∃ v : Value, .iface (pKnd k).T (.pointer (some ⟨pa, 0, none⟩)) = v := ⟨_, rfl⟩
 obtain ⟨pv', hpv'⟩ : ∃ v : Value, .iface (pKnd k').T (.pointer (some ⟨pa', 0, none⟩)) = v := ⟨_, rfl⟩
 obtain ⟨sz, hsz⟩ : ∃ v : Value, .int .i64 (sideZ s) = v := ⟨_, rfl⟩
 obtain ⟨e0, he0⟩ : ∃ v : Value, .iface (sKnd s).T (.pointer (some ⟨c0, 0, none⟩)) = v := ⟨_, rfl⟩
 obtain ⟨e1, he1⟩ : ∃ v : Value, .iface (sKnd s).T (.pointer (some ⟨c1, 0, none⟩)) = v := ⟨_, rfl⟩
 obtain ⟨f0, hf0⟩ : ∃ v : Value, .iface (sKnd s).T (.pointer (some ⟨d0, 0, none⟩)) = v := ⟨_, rfl⟩
 obtain ⟨f1, hf1⟩ : ∃ v : Value, .iface (sKnd s).T (.pointer (some ⟨d1, 0, none⟩)) = v := ⟨_, rfl⟩
 have HM0 := Lib.hid fun (W : World) (a : Sto W s c0 S0 most ps0 t0) (b : Sto W s d0 U0 most qs0 u0) => merge_any s c0 d0 S0 U0 most t0 u0 ps0 qs0 W a b (by have := HB0.out; omega)
 have HM1 := Lib.hid fun (W : World) (a : Sto W s c1 S1 most ps1 t1) (b : Sto W s d1 U1 most qs1 u1) => merge_any s c1 d1 S1 U1 most t1 u1 ps1 qs1 W a b (by have := HB0.out; omega)
 have HAT := Lib.hid fun (W : World) (S0 S1 : List Nat) (ps0 ps1 : List (Int × Int)) (t0 t1 : Int) (a : BnB PB W b k pa part rep s most c0 c1 S0 S1 ps0 ps1 t0 t1 zero) => a.at'
 have KAT := Lib.hid fun (W : World) (a : BnB PB' W o k' pa' part' rep' s most d0 d1 U0 U1 qs0 qs1 u0 u1 zero2) => a.at'
 rw [hpv, hsz, he0, he1] at HAT
 rw [hpv', hsz, hf0, hf1] at KAT
 rw [he0, hf0] at HM0
 rw [he1, hf1] at HM1
 have s4 : BnWW b o #[pv, sz, .int .i64 most, e0, e1, .int .u64 zero] #[pv', sz, .int .i64 most, f0, f1, .int .u64 zero2] W4 := ⟨HAT.out _ _ _ _ _ _ _ H4.out, KAT.out _ K4.out⟩
 have hHeld : HeldS (BnWW b o #[pv, sz, .int .i64 most, e0, e1, .int .u64 zero] #[pv', sz, .int .i64 most, f0, f1, .int .u64 zero2]) W4 := HeldS.mk' s4
 have hne : Nonempty (Held (BnWW b o #[pv, sz, .int .i64 most, e0, e1, .int .u64 zero] #[pv', sz, .int .i64 most, f0, f1, .int .u64 zero2])) := ⟨⟨W4, s4⟩⟩
 have hfar1 := fun x : Held (BnWW b o #[pv, sz, .int .i64 most, e0, e1, .int .u64 zero] #[pv', sz, .int .i64 most, f0, f1, .int .u64 zero2]) => x.held.a.six
 have hfar2 := fun x : Held (BnWW b o #[pv, sz, .int .i64 most, e0, e1, .int .u64 zero] #[pv', sz, .int .i64 most, f0, f1, .int .u64 zero2]) => x.held.b.six
 refine wp_region_noPanic ?_
 refine wp_region_held_drew (S := HeldS (BnWW b o #[pv, sz, .int .i64 most, e0, e1, .int .u64 zero] #[pv', sz, .int .i64 most, f0, f1, .int .u64 zero2])) (by kernel_rfl) (by rw [hW4]; exact hHeld) (fun _ => ?_)
 rw [hW4]
 clear hW4 hB4 z3 a1 H K' hpv hpv' hsz he0 he1 hf0 hf1
 refine wpAnyH_run0 [true, true, true, true, true, true, true, true] 1 (by kernel_rfl) (by kernel_rfl) (fun _ _ _ _ h => h) (by kernel_rfl) hHeld ?_
 simp only [runOps_true, runOps_false, runOps_nil]
 repeat (first | go_big_quiet_skip | (go_big_quiet_want; go_big_quiet_op; go_big_quiet_on))
 refine wpQuiet_nil ?_
 refine wpAnyH_ready (rs := [8]) (by kernel_rfl) (by simp) ?_
 refine AllReadyH.cons rfl (fun K hK => ?_) AllReadyH.nil
 go_simp
 go_wp2_with (go_at_call 208; refine (HM0.out W4 H4.out.s0 K4.out.s0).mono ?_; rintro e w5 ⟨rfl, hA⟩; obtain ⟨T0, hg0, hS0, hF0⟩ := hA)
 refine hK.out _ _ ?_ (fun hHeld => ?_)
 clear hK K
 ·exact HeldS.mk' ⟨hF0.at s4.1 H4.out.n0, hF0.at s4.2 (fun hm => HAP.out o (by simp [hm]) (by simp))⟩
 have H5 := Lib.hid (H4.out.side0 hg0 hS0 hF0)
 have K5 := Lib.hid (K4.out.frame hF0 (fun j hj hm => HAP.out j (by simp [hm]) (by simp [hj])) (fun hm => HAP.out o (by simp [hm]) (by simp)) (fun j hj hm => HAP.out j (by simp [hm]) (by simp [hj])) (fun j hj hm => HAP.out j (by simp [hm]) (by simp [hj])))
 have HF5 : Hid (Frame S0 w w5 ∧ GrownS S0 T0 w.heap.size) := ⟨(Frame.of_below HB4.out).trans hF0, fun j hj => (hg0 j hj).imp id fun h => Nat.le_trans HB4.out.size h⟩
 refine wpAnyH_done (by kernel_rfl) ?_ _
 refine NoPanic.normal ?_
 clear hfar1 hfar2 hHeld hne s4 hF0 hg0 hS0 H4 K4 HB4 HM0
 go_wp2
 have H6 : Hid (BnB PB w5.drew b k pa part rep s most c0 c1 T0 S1 (capAll s most ps0 qs0) ps1 (t0 + u0) t1 zero) := H5.out.below (Below.refl _ _).drew
 have K6 : Hid (BnB PB' w5.drew o k' pa' part' rep' s most d0 d1 U0 U1 qs0 qs1 u0 u1 zero2) := K5.out.below (Below.refl _ _).drew
 have HF6 : Hid (Frame S0 w w5.drew) := HF5.out.1.drew
 have HG6 := Lib.hid HF5.out.2
 obtain ⟨W6, hW6⟩ : ∃ W, w5.drew = W := ⟨_, rfl⟩
 rw [hW6] at H6 K6 HF6
 have s6 : BnWW b o #[pv, sz, .int .i64 most, e0, e1, .int .u64 zero] #[pv', sz, .int .i64 most, f0, f1, .int .u64 zero2] W6 := ⟨HAT.out _ _ _ _ _ _ _ H6.out, KAT.out _ K6.out⟩
 have hHeld : HeldS (BnWW b o #[pv, sz, .int .i64 most, e0, e1, .int .u64 zero] #[pv', sz, .int .i64 most, f0, f1, .int .u64 zero2]) W6 := HeldS.mk' s6
 have hne : Nonempty (Held (BnWW b o #[pv, sz, .int .i64 most, e0, e1, .int .u64 zero] #[pv', sz, .int .i64 most, f0, f1, .int .u64 zero2])) := ⟨⟨W6, s6⟩⟩
 have hfar1 := fun x : Held (BnWW b o #[pv, sz, .int .i64 most, e0, e1, .int .u64 zero] #[pv', sz, .int .i64 most, f0, f1, .int .u64 zero2]) => x.held.a.six
 have hfar2 := fun x : Held (BnWW b o #[pv, sz, .int .i64 most, e0, e1, .int .u64 zero] #[pv', sz, .int .i64 most, f0, f1, .int .u64 zero2]) => x.held.b.six
 refine wp_region_noPanic ?_
 refine wp_region_held_drew (S := HeldS (BnWW b o #[pv, sz, .int .i64 most, e0, e1, .int .u64 zero] #[pv', sz, .int .i64 most, f0, f1, .int .u64 zero2])) (by kernel_rfl) (by rw [hW6]; exact hHeld) (fun _ => ?_)
 rw [hW6]
 clear hW6 H5 K5 HF5
 refine wpAnyH_run0 [true, true, true, true, true, true, true, true] 1 (by kernel_rfl) (by kernel_rfl) (fun _ _ _ _ h => h) (by kernel_rfl) hHeld ?_
 simp only [runOps_true, runOps_false, runOps_nil]
 repeat (first | go_big_quiet_skip | (go_big_quiet_want; go_big_quiet_op; go_big_quiet_on))
 refine wpQuiet_nil ?_
 refine wpAnyH_ready (rs := [8]) (by kernel_rfl) (by simp) ?_
 refine AllReadyH.cons rfl (fun K hK => ?_) AllReadyH.nil
 go_simp
 go_wp2_with (go_at_call 208; refine (HM1.out W6 H6.out.s1 K6.out.s1).mono ?_; rintro e w7 ⟨rfl, hA⟩; obtain ⟨T1, hg1, hS1, hF1⟩ := hA)
 refine hK.out _ _ ?_ (fun hHeld => ?_)
 clear hK K
 ·exact HeldS.mk' ⟨hF1.at s6.1 H6.out.n1, hF1.at s6.2 (fun hm => HAP.out o (by simp [hm]) (by simp))⟩
 have H7 := Lib.hid (H6.out.side1 hg1 hS1 hF1)
 have K7 := Lib.hid (K6.out.frame hF1 (fun j hj hm => HAP.out j (by simp [hm]) (by simp [hj])) (fun hm => HAP.out o (by simp [hm]) (by simp)) (fun j hj hm => HAP.out j (by simp [hm]) (by simp [hj])) (fun j hj hm => HAP.out j (by simp [hm]) (by simp [hj])))
 have HF7 : Hid (Frame (PB ++ (b :: (S0 ++ S1))) w w7) := (HF6.out.mono fun j hj => by simp [hj]).trans (hF1.mono fun j hj => by simp [hj])
 have HG7 : Hid (GrownS (PB ++ (b :: (S0 ++ S1))) (PB ++ (b :: (T0 ++ T1))) w.heap.size) := fun j hj => by
  simp only [List.mem_cons, List.mem_append] at hj ⊢
  rcases hj with hj | rfl | hj | hj
  ·exact .inl (.inl hj)
  ·exact .inl (.inr (.inl rfl))
  ·rcases HG6.out j hj with h1 | h1
   ·exact .inl (.inr (.inr (.inl h1)))
   ·exact .inr h1
  ·rcases hg1 j hj with h1 | h1
   ·exact .inl (.inr (.inr (.inr h1)))
   ·exact .inr (Nat.le_trans HF6.out.size h1)
 refine wpAnyH_done (by kernel_rfl) ?_ _
 refine NoPanic.normal ?_
 clear hfar1 hfar2 hHeld hne s6 hF1 hg1 hS1 H6 K6 HF6 HG6 HM1
 have HW : Hid (IntKind.u64.wrap (zero + zero2) = zero + zero2) := by show _ = _; have := HB0.out; simp only [IntKind.wrap_u64]; omega
 have HFIN : Hid (BaddR b (PB ++ (b :: (S0 ++ S1))) k part rep s most (capAll s most ps0 qs0) (capAll s most ps1 qs1) (t0 + u0) (t1 + u1) (zero + zero2) w (w7.setCell ⟨b, 5, none⟩ (.int .u64 (zero + zero2))).drew) :=
  ⟨_, HG7.out, ⟨_, _, _, _, _, _, rfl, H7.out.noughts.below (Below.refl _ _).drew⟩, (HF7.out.setc (.inl (by simp)) 5 _).drew⟩
 have s7 := HAT.out _ _ _ _ _ _ _ H7.out
 have t7 := KAT.out _ K7.out
 have f7 := s7.six
 have l7 := s7.lt
 have g7 := t7.six
 have m7 := t7.lt
 clear H7 K7 HF7 HG7 s7 t7
 go_wp2
 go_region
 rw [HW.out]
 clear f7 l7 g7 m7
 go_wp2
 go_ret
 exact ⟨rfl, HFIN.out⟩
end Go.Proofs.YtlbnlmhcpephbaaGreatDoor

namespace Go.Proofs.YtlbnlmhcpephbaaGreatDoor
open Go.RowKit
theorem find_first {p : Int × Int → Bool} {l : List (Int × Int)} {k : Nat} (hk : k < l.length) (h0 : ∀ v ∈ l.take k, p v = false) (h1 : p (l[k]'hk) = true) : l.find? p = some (l[k]'hk) := by
 have e : l = l.take k ++ (l[k]'hk) :: l.drop (k + 1) := by rw [← List.drop_eq_getElem_cons hk, List.take_append_drop]
 conv => lhs; rw [e]
 rw [List.find?_append, List.find?_eq_none.2 fun v hv => by rw [h0 v hv]; decide, Option.none_or, List.find?_cons, h1]
set_option maxRecDepth 100000 in
set_option maxHeartbeats 2000000 in
theorem exact_any (A : Option Addr) (len cap : Nat) (l : List (Int × Int)) (t : Int) (w : World) (hl : l.length = len) (hm : len ≤ 1000000) (hR : RdP w A l) (hp : ∀ x ∈ l, 0 < x.2) (hs : sumP l ≤ 9223372036854775807) :
  Calls Tryz.prog 13 #[.slice A len cap, .int .u64 t] w fun e w' => e = .returned (.tuple #[.int .i64 ((exactV l t).getD 0), .bool (exactV l t).isSome]) ∧ Below w.heap.size w w' := by
 have HR := Lib.hid hR
 have H := Lib.hid hp
 have HS := Lib.hid hs
 have HL := Lib.hid hl
 have HE : Hid (exactV l t = (l.find? fun v => decide (lessV l v.1 < t ∧ t ≤ lessV l v.1 + sameV l v.1)).map fun v => v.1) := rfl
 clear hR hp hs hl
 go_enter Tryz.func13, Tryz.ntmps13
 go_wp2
 go_loopw [7, 8, 9, 11, 14, 20] (fun _ _ _ _ i _ wr => ∃ k : Nat, k ≤ len ∧ i = .int .i64 k ∧ Hid (∀ v ∈ l.take k, decide (lessV l v.1 < t ∧ t ≤ lessV l v.1 + sameV l v.1) = false) ∧ Below w.heap.size w wr) (fun _ _ _ _ i _ _ => len - (intOf i).toNat)
 case atStart => exact ⟨0, by omega, rfl, fun v hv => by simp at hv, Below.refl _ _⟩
 case round =>
  obtain ⟨k, hk, rfl, HF, hB⟩ := hrel
  obtain ⟨wo, hwo⟩ : ∃ wo, wr = wo := ⟨_, rfl⟩
  rw [hwo] at hB ⊢
  have zB := hB.size
  by_cases hlt : k < len
  ·obtain ⟨g, o, rfl, hg, c1, c2⟩ := (HR.out.below hB).at k (by have := HL.out; omega)
   have HKL : Hid (k < l.length) := by have := HL.out; show _ < _; omega
   have HFF := Lib.hid (fun h => find_first (p := fun v => decide (lessV l v.1 < t ∧ t ≤ lessV l v.1 + sameV l v.1)) HKL.out HF.out h)
   have HTK : Hid (l.take (k + 1) = l.take k ++ [l[k]'HKL.out]) := List.take_succ_eq_append_getElem HKL.out
   obtain ⟨⟨x, y⟩, hx⟩ : ∃ x, l[k]'HKL.out = x := ⟨_, rfl⟩
   rw [hx] at c1 c2 HFF HTK
   dsimp only at c1 c2 HFF
   clear hx
   have aX := At.new' wo #[.int .i64 x, .int .u64 y] 54 rfl
   have hba : Below w.heap.size w (wo.alloc (.cells #[.int .i64 x, .int .u64 y] 54)) := hB.alloc (by omega) _
   go_wp2
   obtain ⟨xB, hxB⟩ : ∃ b, wo.heap.size = b := ⟨_, rfl⟩
   rw [hxB] at aX
   simp only [hxB]
   have HXB := Lib.hid hxB
   generalize wo.alloc (.cells #[.int .i64 x, .int .u64 y] 54) = W1 at aX hba ⊢
   have zx := aX.lt
   clear hxB c1 c2
   have HRW := Lib.hid (HR.out.below hba)
   have HW1 := Lib.hid (And.intro hba aX)
   go_loopw [8, 9, 11, 20] (fun u s _ i wi => ∃ j : Nat, ∃ p q : Int, j ≤ len ∧ i = .int .i64 j ∧ u = .int .u64 p ∧ s = .int .u64 q ∧ 0 ≤ p ∧ 0 ≤ q ∧ Hid (p = lessV (l.take j) x ∧ q = sameV (l.take j) x) ∧ Hid (Below W1.heap.size W1 wi)) (fun _ _ _ i _ => len - (intOf i).toNat)
   case atStart => exact ⟨0, 0, 0, by omega, rfl, rfl, rfl, by omega, by omega, ⟨rfl, rfl⟩, Below.refl _ _⟩
   case round =>
    obtain ⟨j, p, q, hj, rfl, rfl, rfl, hp0, hq0, HPQ, HB2⟩ := hrel
    clear aX hba
    have a2 := HW1.out.2.below HB2.out
    have f2 := a2.two
    have l2 := a2.lt
    have z2 := HB2.out.size
    by_cases hjt : j < len
    ·obtain ⟨g', o', e, hg', d1, d2⟩ := (HRW.out.below HB2.out).at j (by have := HL.out; omega)
     cases e
     have H1 := Lib.hid (sumP_filter_take l (fun v => decide (v.1 < x)) j (by have := HL.out; omega))
     have H2 := Lib.hid (sumP_filter_take l (fun v => decide (v.1 = x)) j (by have := HL.out; omega))
     have H3 := Lib.hid (Int.le_trans (vsum_filter (l := l.take (j + 1)) (fun x hx => H.out x (List.mem_of_mem_take hx)) (fun v => decide (v.1 < x))).2 (Int.le_trans (vsum_take H.out (j + 1)).2 HS.out))
     have H3' := Lib.hid (Int.le_trans (vsum_filter (l := l.take (j + 1)) (fun x hx => H.out x (List.mem_of_mem_take hx)) (fun v => decide (v.1 = x))).2 (Int.le_trans (vsum_take H.out (j + 1)).2 HS.out))
     have H4 := Lib.hid (H.out _ (List.getElem_mem (show j < l.length by have := HL.out; omega)))
     obtain ⟨⟨y1, y2⟩, hy⟩ : ∃ y, l[j]'(by have := HL.out; omega) = y := ⟨_, rfl⟩
     rw [hy] at d1 d2 H1 H2 H4
     dsimp only at d1 d2 H1 H2 H4
     clear hy
     by_cases hlt2 : y1 < x
     ·rw [if_pos (decide_eq_true hlt2)] at H1
      rw [if_neg (by simp; omega)] at H2
      have hne : (y1 == x) = false := beq_eq_false_iff_ne.2 (by omega)
      have wa : IntKind.u64.wrap (p + y2) = p + y2 := by have h1 := H1.out; have h2 := H3.out; have h3 := HPQ.out.1; have h6 := H4.out; unfold lessV at h3; simp only [IntKind.wrap_u64]; omega
      have HN : Hid (p + y2 = lessV (l.take (j + 1)) x ∧ q = sameV (l.take (j + 1)) x) := by have h1 := H1.out; have h2 := H2.out; have h3 := HPQ.out; unfold lessV sameV at *; constructor <;> omega
      have hpp : 0 ≤ p + y2 := by have := H4.out; omega
      clear H1 H2 H3 H3' H4
      go_wp2
      go_roundw
      case rel => exact ⟨j + 1, p + y2, q, by omega, by simp, rfl, rfl, hpp, hq0, HN, HB2.out.alloc (by omega) _⟩
      case measure => simp [intOf]; omega
     ·by_cases he : y1 = x
      ·subst he
       rw [if_neg (by simp)] at H1
       rw [if_pos (by simp)] at H2
       have wa : IntKind.u64.wrap (q + y2) = q + y2 := by have h1 := H2.out; have h2 := H3'.out; have h3 := HPQ.out.2; have h6 := H4.out; unfold sameV at h3; simp only [IntKind.wrap_u64]; omega
       have HN : Hid (p = lessV (l.take (j + 1)) y1 ∧ q + y2 = sameV (l.take (j + 1)) y1) := by have h1 := H1.out; have h2 := H2.out; have h3 := HPQ.out; unfold lessV sameV at *; constructor <;> omega
       have hpp : 0 ≤ q + y2 := by have := H4.out; omega
       clear H1 H2 H3 H3' H4
       go_wp2
       go_roundw
       case rel => exact ⟨j + 1, p, q + y2, by omega, by simp, rfl, rfl, hp0, hpp, HN, HB2.out.alloc (by omega) _⟩
       case measure => simp [intOf]; omega
      ·rw [if_neg (by simpa using hlt2)] at H1
       rw [if_neg (by simpa using he)] at H2
       have hne : (y1 == x) = false := beq_eq_false_iff_ne.2 he
       have HN : Hid (p = lessV (l.take (j + 1)) x ∧ q = sameV (l.take (j + 1)) x) := by have h1 := H1.out; have h2 := H2.out; have h3 := HPQ.out; unfold lessV sameV at *; constructor <;> omega
       clear H1 H2 H3 H3' H4
       go_wp2
       go_roundw
       case rel => exact ⟨j + 1, p, q, by omega, by simp, rfl, rfl, hp0, hq0, HN, HB2.out.alloc (by omega) _⟩
       case measure => simp [intOf]; omega
    ·obtain rfl : j = len := by omega
     have h1 := HPQ.out
     rw [List.take_of_length_le (by have := HL.out; omega)] at h1
     have HPQ2 := Lib.hid h1
     have hsum : p + q ≤ 9223372036854775807 := by
      have e := upV_split l x
      have := (vsum_filter H.out (fun v => decide (v.1 ≤ x))).2
      have := HS.out
      unfold upV at e
      omega
     have hw : IntKind.u64.wrap (p + q) = p + q := by simp only [IntKind.wrap_u64]; omega
     have HBW : Hid (Below w.heap.size w wr) := HW1.out.1.trans (HB2.out.mono (HW1.out.1.size))
     by_cases hc : p < t ∧ t ≤ p + q
     ·have hd1 : decide (p < t) = true := decide_eq_true hc.1
      have hd2 : decide (t ≤ p + q) = true := decide_eq_true hc.2
      have HV : Hid (exactV l t = some x) := by
       show _ = _
       rw [HE.out, HFF.out (by rw [← HPQ2.out.1, ← HPQ2.out.2]; exact decide_eq_true hc)]
       rfl
      clear hc HFF HTK HF h1 HRW HPQ HE
      go_wp2
      go_ret2
      exact ⟨by rw [HV.out]; rfl, HBW.out⟩
     ·have HF2 : Hid (∀ v ∈ l.take (k + 1), decide (lessV l v.1 < t ∧ t ≤ lessV l v.1 + sameV l v.1) = false) := by
       intro v hv
       rw [HTK.out] at hv
       rcases List.mem_append.1 hv with hv | hv
       ·exact HF.out v hv
       ·rw [List.mem_singleton] at hv
        subst hv
        dsimp only
        rw [← HPQ2.out.1, ← HPQ2.out.2]
        exact decide_eq_false hc
      by_cases hc1 : p < t
      ·have hd1 : decide (p < t) = true := decide_eq_true hc1
       have hd2 : decide (t ≤ p + q) = false := decide_eq_false (by omega)
       clear hc hc1 HFF HTK HF h1 HRW HPQ
       go_wp2
       go_roundw
       case rel => exact ⟨k + 1, by omega, by simp, HF2, HBW.out⟩
       case measure => simp [intOf]; omega
      ·have hd1 : decide (p < t) = false := decide_eq_false hc1
       clear hc hc1 HFF HTK HF h1 HRW HPQ
       go_wp2
       go_roundw
       case rel => exact ⟨k + 1, by omega, by simp, HF2, HBW.out⟩
       case measure => simp [intOf]; omega
  ·obtain rfl : k = len := by omega
   have HV : Hid (exactV l t = none) := by
    have h1 := HF.out
    rw [List.take_of_length_le (by have := HL.out; omega)] at h1
    show _ = _
    rw [HE.out, List.find?_eq_none.2 fun v hv => by rw [h1 v hv]; decide]
    rfl
   clear HF HR HE
   go_wp2
   go_ret2
   exact ⟨by rw [HV.out]; rfl, hB⟩
end Go.Proofs.YtlbnlmhcpephbaaGreatDoor

namespace Go.Proofs.YtlbnlmhcpephbaaGreatDoor
open Go.RowKit
def KeptR (ps : List (Int × Int)) (s : Bool) (most : Int) (w : World) (e : Ending) (w' : World) : Prop :=
 ∃ A' c', e = .returned (.tuple #[.slice A' (keptP s most ps).length c', .int .u64 (sumP ps - sumP (keptP s most ps))]) ∧ RdP w' A' (keptP s most ps) ∧ Below w.heap.size w w'
def docFind13 (part : Nat → Int) (stand : Int → Int) (s : Bool) (most : Int) (l : List (Int × Int)) (t : Int) : Option Int :=
 match exactV l t with
 | none => none
 | some x => if x ≠ 0 ∧ cnt (keptP s most (rowV part (decide (x < 0)) l)) (part x.natAbs) = 0 then none else some (stand x)
end Go.Proofs.YtlbnlmhcpephbaaGreatDoor

namespace Go.Proofs.YtlbnlmhcpephbaaGreatDoor
open Go.RowKit
theorem lowV_spec : ∀ (l : List (Int × Int)) (a : Int), lowV a l ≤ a ∧ (∀ v ∈ l, lowV a l ≤ v.1) ∧ (lowV a l = a ∨ ∃ v ∈ l, v.1 = lowV a l)
 | [], a => ⟨Int.le_refl _, by simp, .inl rfl⟩
 | x :: l, a => by
  obtain ⟨h1, h2, h3⟩ := lowV_spec l (min a x.1)
  have e : lowV a (x :: l) = lowV (min a x.1) l := rfl
  rw [e]
  refine ⟨by omega, fun v hv => ?_, ?_⟩
  ·rcases List.mem_cons.1 hv with rfl | hv
   ·omega
   ·exact h2 v hv
  ·rcases h3 with h3 | ⟨v, hv, h3⟩
   ·rcases (show min a x.1 = a ∨ min a x.1 = x.1 by omega) with h | h
    ·exact .inl (h3.trans h)
    ·exact .inr ⟨x, by simp, by rw [h3, h]⟩
   ·exact .inr ⟨v, by simp [hv], h3⟩
theorem highV_spec : ∀ (l : List (Int × Int)) (a : Int), a ≤ highV a l ∧ (∀ v ∈ l, v.1 ≤ highV a l) ∧ (highV a l = a ∨ ∃ v ∈ l, v.1 = highV a l)
 | [], a => ⟨Int.le_refl _, by simp, .inl rfl⟩
 | x :: l, a => by
  obtain ⟨h1, h2, h3⟩ := highV_spec l (max a x.1)
  have e : highV a (x :: l) = highV (max a x.1) l := rfl
  rw [e]
  refine ⟨by omega, fun v hv => ?_, ?_⟩
  ·rcases List.mem_cons.1 hv with rfl | hv
   ·omega
   ·exact h2 v hv
  ·rcases h3 with h3 | ⟨v, hv, h3⟩
   ·rcases (show max a x.1 = a ∨ max a x.1 = x.1 by omega) with h | h
    ·exact .inl (h3.trans h)
    ·exact .inr ⟨x, by simp, by rw [h3, h]⟩
   ·exact .inr ⟨v, by simp [hv], h3⟩
theorem head_mem {l : List (Int × Int)} (h : l ≠ []) : l.headD (0, 0) ∈ l := by
 cases l with
 | nil => exact absurd rfl h
 | cons x l => simp
def eLow (l : List (Int × Int)) : Int := if l.length = 0 then 0 else lowV (l.headD (0, 0)).1 l
def eHigh (l : List (Int × Int)) : Int := if l.length = 0 then 0 else highV (l.headD (0, 0)).1 l
def eIs (l : List (Int × Int)) : Bool := decide (l.length ≠ 0)
theorem eLow_le {l : List (Int × Int)} {v : Int × Int} (hv : v ∈ l) : eLow l ≤ v.1 ∧ v.1 ≤ eHigh l := by
 have hn : l.length ≠ 0 := fun e => by rw [List.eq_nil_of_length_eq_zero e] at hv; simp at hv
 unfold eLow eHigh
 rw [if_neg hn, if_neg hn]
 exact ⟨(lowV_spec l _).2.1 v hv, (highV_spec l _).2.1 v hv⟩
theorem eLow_mem {l : List (Int × Int)} (hn : l ≠ []) : (∃ v ∈ l, v.1 = eLow l) ∧ ∃ v ∈ l, v.1 = eHigh l := by
 have hl : l.length ≠ 0 := fun e => hn (List.eq_nil_of_length_eq_zero e)
 unfold eLow eHigh
 rw [if_neg hl, if_neg hl]
 refine ⟨?_, ?_⟩
 ·rcases (lowV_spec l (l.headD (0, 0)).1).2.2 with h | h
  ·exact ⟨_, head_mem hn, h.symm⟩
  ·exact h
 ·rcases (highV_spec l (l.headD (0, 0)).1).2.2 with h | h
  ·exact ⟨_, head_mem hn, h.symm⟩
  ·exact h
theorem lowV_append (a : Int) (l l' : List (Int × Int)) : lowV a (l ++ l') = lowV (lowV a l) l' := by unfold lowV; rw [List.foldl_append]
theorem highV_append (a : Int) (l l' : List (Int × Int)) : highV a (l ++ l') = highV (highV a l) l' := by unfold highV; rw [List.foldl_append]
theorem ends_uniq {l : List (Int × Int)} {a b : Int} (h1 : ∃ v ∈ l, v.1 = a) (h2 : ∀ v ∈ l, a ≤ v.1) (h3 : ∃ v ∈ l, v.1 = b) (h4 : ∀ v ∈ l, v.1 ≤ b) : eLow l = a ∧ eHigh l = b := by
 obtain ⟨v, hv, rfl⟩ := h1
 obtain ⟨u, hu, rfl⟩ := h3
 have hn : l ≠ [] := fun e => by rw [e] at hv; simp at hv
 obtain ⟨⟨x, hx, ex⟩, y, hy, ey⟩ := eLow_mem hn
 have := eLow_le hv
 have := eLow_le hu
 have := h2 x hx
 have := h4 y hy
 omega
end Go.Proofs.YtlbnlmhcpephbaaGreatDoor

namespace Go.Proofs.YtlbnlmhcpephbaaGreatDoor
open Go.RowKit
structure VOk (l : List (Int × Int)) : Prop where
 ok : okP l
 pos : ∀ v ∈ l, 0 < v.2
 sum : sumP l ≤ 9223372036854775807
theorem VOk.nil : VOk [] := ⟨fun x hx => by simp at hx, fun x hx => by simp at hx, by rw [sumP_nil]; omega⟩
theorem VOk.sum0 {l : List (Int × Int)} (h : VOk l) : 0 ≤ sumP l := sumP_nonneg h.pos
theorem VOk.snoc {l : List (Int × Int)} (h : VOk l) {x c : Int} (hx : -9223372036854775808 ≤ x ∧ x ≤ 9223372036854775807) (hc : 0 < c) (hs : sumP l + c ≤ 9223372036854775807) : VOk (l ++ [(x, c)]) := by
 have h0 := h.sum0
 refine ⟨fun v hv => ?_, fun v hv => ?_, ?_⟩
 ·rcases List.mem_append.1 hv with h1 | h1
  ·exact h.ok v h1
  ·rw [List.mem_singleton] at h1; subst h1; exact ⟨hx, by dsimp only; omega, by dsimp only; omega⟩
 ·rcases List.mem_append.1 hv with h1 | h1
  ·exact h.pos v h1
  ·rw [List.mem_singleton] at h1; subst h1; exact hc
 ·rw [sumP_append, sumP_cons, sumP_nil]; dsimp only; omega
theorem VOk.total {l : List (Int × Int)} {part : Nat → Int} (h : VOk l) : sumP (rowV part true l) + zeroV l + sumP (rowV part false l) = sumP l ∧ 0 ≤ zeroV l := by
 have hs := h.sum
 rw [negV_row h.pos (by omega), posV_row h.pos (by omega), sum_three l]
 exact ⟨rfl, sumP_nonneg fun v hv => h.pos v (List.mem_filter.1 hv).1⟩
theorem VOk.empty {l : List (Int × Int)} (h : VOk l) : sumP l = 0 ↔ l = [] := by
 constructor
 ·intro h0
  cases l with
  | nil => rfl
  | cons v l =>
   have h1 := h.pos v (by simp)
   have h2 := sumP_nonneg (ps := l) fun u hu => h.pos u (by simp [hu])
   rw [sumP_cons] at h0
   omega
 ·rintro rfl; rfl
theorem eLow_snoc {l : List (Int × Int)} (h : VOk l) (x c : Int) : eLow (l ++ [(x, c)]) = (if sumP l = 0 then x else min (eLow l) x) ∧ eHigh (l ++ [(x, c)]) = (if sumP l = 0 then x else max (eHigh l) x) := by
 by_cases h0 : l = []
 ·subst h0
  rw [if_pos sumP_nil, if_pos sumP_nil]
  unfold eLow eHigh lowV highV
  simp
 ·have hl : l.length ≠ 0 := fun e => h0 (List.eq_nil_of_length_eq_zero e)
  rw [if_neg fun e => h0 (h.empty.1 e), if_neg fun e => h0 (h.empty.1 e)]
  have hh : (l ++ [(x, c)]).headD (0, 0) = l.headD (0, 0) := by
   cases l with
   | nil => exact absurd rfl h0
   | cons v l => rfl
  unfold eLow eHigh
  rw [if_neg hl, if_neg hl, if_neg (by simp), if_neg (by simp), hh, lowV_append, highV_append]
  exact ⟨rfl, rfl⟩
theorem zeroV_snoc {l : List (Int × Int)} (x c : Int) : zeroV (l ++ [(x, c)]) = if x = 0 then zeroV l + c else zeroV l := by
 unfold zeroV
 rw [List.filter_append, sumP_append]
 by_cases hx : x = 0
 ·rw [if_pos hx, List.filter_cons_of_pos (by simpa using hx), List.filter_nil, sumP_cons, sumP_nil]; dsimp only; omega
 ·rw [if_neg hx, List.filter_cons_of_neg (by simpa using hx), List.filter_nil, sumP_nil]; omega
theorem rowV_app {part : Nat → Int} {below : Bool} {l k : List (Int × Int)} (hp : ∀ v ∈ l, 0 < v.2) (kp : ∀ v ∈ k, 0 < v.2) (hs : sumP l + sumP k < 18446744073709551616) : rowV part below (l ++ k) = addAll (rowV part below l) (rowV part below k) := by
 have l0 := sumP_nonneg hp
 have k0 := sumP_nonneg kp
 have hpa : ∀ v ∈ l ++ k, 0 < v.2 := fun v hv => (List.mem_append.1 hv).elim (hp v) (kp v)
 have hsa : sumP (l ++ k) < 18446744073709551616 := by rw [sumP_append]; exact hs
 have g1 := rowV_gd (part := part) (below := below) hp (by omega)
 have g2 := rowV_gd (part := part) (below := below) kp (by omega)
 have e1 := rowV_sum (part := part) (below := below) hp (by omega)
 have e2 := rowV_sum (part := part) (below := below) kp (by omega)
 have u1 := (vsum_filter hp fun v => sgn below v.1).2
 have u2 := (vsum_filter kp fun v => sgn below v.1).2
 obtain ⟨a1, a2, a3⟩ := addAll_spec (l := rowV part below k) (ps := rowV part below l) g1 g2.pos (by rw [e1, e2]; omega)
 refine Gd.ext (rowV_gd hpa hsa) a1 fun i => ?_
 rw [a3, rowV_cnt i hpa hsa, rowV_cnt i hp (by omega), rowV_cnt i kp (by omega), List.filter_append, sumP_append]
theorem zeroV_app (l k : List (Int × Int)) : zeroV (l ++ k) = zeroV l + zeroV k := by unfold zeroV; rw [List.filter_append, sumP_append]
theorem eLow_app {l k : List (Int × Int)} (h : VOk l) (hk : k ≠ []) : eLow (l ++ k) = (if sumP l = 0 then eLow k else min (eLow l) (eLow k)) ∧ eHigh (l ++ k) = (if sumP l = 0 then eHigh k else max (eHigh l) (eHigh k)) := by
 by_cases h0 : l = []
 ·subst h0
  rw [if_pos sumP_nil, if_pos sumP_nil]
  exact ⟨rfl, rfl⟩
 ·rw [if_neg fun e => h0 (h.empty.1 e), if_neg fun e => h0 (h.empty.1 e)]
  obtain ⟨⟨v1, m1, e1⟩, ⟨v2, m2, e2⟩⟩ := eLow_mem h0
  obtain ⟨⟨u1, n1, f1⟩, ⟨u2, n2, f2⟩⟩ := eLow_mem hk
  refine ends_uniq ?_ ?_ ?_ ?_
  ·rcases Int.le_total (eLow l) (eLow k) with h1 | h1
   ·exact ⟨v1, List.mem_append.2 (.inl m1), by rw [e1]; omega⟩
   ·exact ⟨u1, List.mem_append.2 (.inr n1), by rw [f1]; omega⟩
  ·intro v hv
   rcases List.mem_append.1 hv with h1 | h1
   ·have := (eLow_le h1).1; omega
   ·have := (eLow_le h1).1; omega
  ·rcases Int.le_total (eHigh l) (eHigh k) with h1 | h1
   ·exact ⟨u2, List.mem_append.2 (.inr n2), by rw [f2]; omega⟩
   ·exact ⟨v2, List.mem_append.2 (.inl m2), by rw [e2]; omega⟩
  ·intro v hv
   rcases List.mem_append.1 hv with h1 | h1
   ·have := (eLow_le h1).2; omega
   ·have := (eLow_le h1).2; omega
theorem negV_app (l k : List (Int × Int)) : negV (l ++ k) = negV l + negV k := by unfold negV; rw [List.filter_append, sumP_append]
theorem posV_app (l k : List (Int × Int)) : posV (l ++ k) = posV l + posV k := by unfold posV; rw [List.filter_append, sumP_append]
theorem VOk.three {l : List (Int × Int)} (h : VOk l) : negV l + zeroV l + posV l = sumP l ∧ 0 ≤ negV l ∧ 0 ≤ zeroV l ∧ 0 ≤ posV l :=
 ⟨(sum_three l).symm, sumP_nonneg fun v hv => h.pos v (List.mem_filter.1 hv).1, sumP_nonneg fun v hv => h.pos v (List.mem_filter.1 hv).1, sumP_nonneg fun v hv => h.pos v (List.mem_filter.1 hv).1⟩
theorem exactV_none {l : List (Int × Int)} {t : Int} (hp : ∀ v ∈ l, 0 < v.2) (h : t < 1 ∨ sumP l < t) : exactV l t = none := by
 cases he : exactV l t with
 | none => rfl
 | some x =>
  exfalso
  have hx := exactV_is he
  have h1 := hx.lo
  have h2 := hx.hi
  have h3 : 0 ≤ lessV l x := sumP_nonneg fun v hv => hp v (List.mem_filter.1 hv).1
  have h4 : lessV l x + sameV l x ≤ sumP l := by rw [← upV_split]; exact (vsum_filter hp _).2
  omega
end Go.Proofs.YtlbnlmhcpephbaaGreatDoor

namespace Go.Proofs.YtlbnlmhcpephbaaGreatDoor
open Go.RowKit
structure PS (part : Nat → Int) (rep : Int → Int) (stand : Int → Int) : Prop where
 mono : PartMono part
 rng : ∀ m : Nat, 0 < m → m ≤ 9223372036854775808 → 0 ≤ part m ∧ part m ≤ 1048576
 st : ∀ x : Int, x ≠ 0 → -9223372036854775808 ≤ x → x ≤ 9223372036854775807 → stand x = valZ rep (part x.natAbs) (decide (x < 0))
 s0 : stand 0 = 0
def BnV (w : World) (b : Nat) (S : List Nat) (k : Bool) (part : Nat → Int) (rep : Int → Int) (s : Bool) (most : Int) (l : List (Int × Int)) : Prop :=
 Bn w b S k part rep s most (keptP s most (rowV part true l)) (keptP s most (rowV part false l)) (negV l) (posV l) (zeroV l)
section
variable {w w' : World} {b : Nat} {S T : List Nat} {k s : Bool} {part : Nat → Int} {rep : Int → Int} {most : Int} {l : List (Int × Int)}
theorem BnV.frame (h : BnV w b S k part rep s most l) (hf : Frame T w w') (hn : Apart S T) : BnV w' b S k part rep s most l := Bn.frame h hf hn
theorem BnV.below (h : BnV w b S k part rep s most l) (hb : Below w.heap.size w w') : BnV w' b S k part rep s most l := Bn.below h hb
theorem BnV.lt (h : BnV w b S k part rep s most l) : ∀ j ∈ S, j < w.heap.size := Bn.lt h
theorem BnV.m14 (h : BnV w b S k part rep s most l) : 1 ≤ most ∧ most ≤ 4096 := by
 obtain ⟨PB, pa, c0, c1, S0, S1, rfl, h⟩ := h
 exact h.s0.m14
theorem BnV.rng (h : BnV w b S k part rep s most l) : ∀ m : Nat, 0 < m → m ≤ 9223372036854775808 → 0 ≤ part m ∧ part m ≤ 1048576 := by
 obtain ⟨PB, pa, c0, c1, S0, S1, rfl, h⟩ := h
 exact h.prt.rng
theorem BnV.new (h : Bn w b S k part rep s most [] [] 0 0 0) : BnV w b S k part rep s most [] := h
end
theorem btot_v (b : Nat) (S : List Nat) (k : Bool) (part : Nat → Int) (rep : Int → Int) (s : Bool) (most : Int) (l : List (Int × Int)) (w : World) (h : BnV w b S k part rep s most l) (hv : VOk l) :
  Calls Tryz.prog 103 #[.pointer (some ⟨b, 0, none⟩)] w fun e w' => e = .returned (.int .u64 (sumP l)) ∧ Below w.heap.size w w' := by
 obtain ⟨PB, pa, c0, c1, S0, S1, rfl, h⟩ := h
 obtain ⟨t1, t2, t3, t4⟩ := hv.three
 exact btot_at _ _ _ _ _ _ _ _ _ _ _ _ _ _ _ _ _ _ w h t3 t1 hv.sum
def BpvR (b : Nat) (S : List Nat) (k : Bool) (part : Nat → Int) (rep : Int → Int) (s : Bool) (most : Int) (l : List (Int × Int)) (w w' : World) : Prop := ∃ S', GrownS S S' w.heap.size ∧ BnV w' b S' k part rep s most l ∧ Frame S w w'
theorem badd_v (b : Nat) (S : List Nat) (k : Bool) (part : Nat → Int) (rep : Int → Int) (s : Bool) (most x c : Int) (l : List (Int × Int)) (w : World) (h : BnV w b S k part rep s most l) (hv : VOk l) (hx : -9223372036854775808 ≤ x ∧ x ≤ 9223372036854775807) (hc : 0 < c) (hs : sumP l + c ≤ 9223372036854775807) :
  Calls Tryz.prog 185 #[.pointer (some ⟨b, 0, none⟩), .int .i64 x, .int .u64 c] w fun e w' => e = .returned (.int .i64 0) ∧ BpvR b S k part rep s most (l ++ [(x, c)]) w w' := by
 have hm := h.m14
 obtain ⟨PB, pa, c0, c1, S0, S1, rfl, h⟩ := h
 obtain ⟨t1, t2, t3, t4⟩ := hv.three
 have hsm := hv.sum
 have e3 := zeroV_snoc (l := l) x c
 have e4 := rowV_snoc (part := part) (below := true) (l := l) (x, c)
 have e5 := rowV_snoc (part := part) (below := false) (l := l) (x, c)
 have e6 := negV_app l [(x, c)]
 have e7 := posV_app l [(x, c)]
 rw [sgn_true] at e4
 rw [sgn_false] at e5
 dsimp only at e4 e5
 have hn1 : negV [(x, c)] = if x < 0 then c else 0 := by unfold negV; by_cases hx0 : x < 0 <;> simp [hx0, sumP_cons, sumP_nil]
 have hp1 : posV [(x, c)] = if 0 < x then c else 0 := by unfold posV; by_cases hx0 : 0 < x <;> simp [hx0, sumP_cons, sumP_nil]
 have hcn : ∀ bl q, cnt (rowV part bl l) q + c < 18446744073709551616 := fun bl q => by
  have a1 := cnt_le_sumP (rowV_gd (part := part) (below := bl) hv.pos (by omega)).pos q
  have a2 := rowV_sum (part := part) (below := bl) hv.pos (by omega)
  have a3 := (vsum_filter hv.pos fun v => sgn bl v.1).2
  omega
 unfold BpvR BnV
 rw [e3, e4, e5, e6, e7, hn1, hp1]
 rcases Int.lt_trichotomy x 0 with h1 | rfl | h1
 ·rw [if_neg (by omega : ¬ x = 0), if_pos (decide_eq_true h1), if_neg (by simp; omega), if_pos h1, if_neg (by omega), Int.add_zero, kept_rowAdd (rowV_gd hv.pos (by omega)) hm.1 hc (hcn _ _)]
  exact badd_neg _ _ _ _ _ _ _ _ _ _ _ _ _ _ _ _ _ _ _ _ w h t3 t1 hc hs hx.1 h1
 ·rw [if_pos rfl]
  simp only [Int.lt_irrefl, decide_false, Bool.false_eq_true, if_false, Int.add_zero]
  exact badd_nought _ _ _ _ _ _ _ _ _ _ _ _ _ _ _ _ _ _ _ w h t3 t1 hc hs
 ·rw [if_neg (by omega : ¬ x = 0), if_neg (by simp; omega), if_pos (decide_eq_true h1), if_neg (by omega), if_pos h1, Int.add_zero, kept_rowAdd (rowV_gd hv.pos (by omega)) hm.1 hc (hcn _ _)]
  exact badd_pos _ _ _ _ _ _ _ _ _ _ _ _ _ _ _ _ _ _ _ _ w h t3 t1 hc hs hx.2 h1
theorem stoFind_doc {s : Bool} {most t : Int} {row : List (Int × Int)} (h : Gd row) (hs : sumP row < 18446744073709551616) (ht : 0 ≤ t) :
  stoFind s (sumP row - sumP (keptP s most row)) (keptP s most row) t = (match findP t 0 row with | some i => if gap s (endP s row) i < most then some i else none | none => none) := by
 cases s
 ·exact Hi.lowFind_doc h hs ht
 ·exact Lo.lowFind_doc h hs ht
theorem stoFind_cnt {s : Bool} {most t i : Int} {row : List (Int × Int)} (h : Gd row) (hs : sumP row < 18446744073709551616) (ht : 0 ≤ t) (hf : findP t 0 row = some i) :
  stoFind s (sumP row - sumP (keptP s most row)) (keptP s most row) t = if cnt (keptP s most row) i = 0 then none else some i := by
 rw [stoFind_doc h hs ht, hf]
 dsimp only
 rw [cnt_kept]
 obtain ⟨x, hx, e⟩ := Lo.findP_mem hf
 have hc := (cnt_mem h).1 ⟨x, hx, e⟩
 by_cases hg : gap s (endP s row) i < most
 ·rw [if_pos hg, if_pos hg, if_neg (by omega)]
 ·rw [if_neg hg, if_neg hg, if_pos rfl]
theorem binFind_doc {part : Nat → Int} {rep stand : Int → Int} {s : Bool} {most t : Int} {l : List (Int × Int)} (hp : PS part rep stand) (hv : VOk l) (ht : 0 ≤ t) :
  binFind rep s (keptP s most (rowV part true l)) (keptP s most (rowV part false l)) (negV l) (posV l) (zeroV l) t = docFind13 part stand s most l t := by
 obtain ⟨t1, t2, t3, t4⟩ := hv.three
 have hsm := hv.sum
 unfold binFind docFind13
 by_cases h0 : t = 0 ∨ negV l + zeroV l + posV l < t
 ·rw [if_pos h0, exactV_none hv.pos (by omega)]
 ·rw [if_neg h0]
  obtain ⟨x, hx, hE⟩ := exactV_some hv.pos (t := t) (by omega) (by omega)
  rw [hx]
  dsimp only
  obtain ⟨v, hvm, hvx⟩ := hE.mem
  have hr := (hv.ok v hvm).1
  rw [hvx] at hr
  have gn := rowV_gd (part := part) (below := true) hv.pos (by omega)
  have gp := rowV_gd (part := part) (below := false) hv.pos (by omega)
  have sn := negV_row (part := part) hv.pos (by omega)
  have sp := posV_row (part := part) hv.pos (by omega)
  rcases Int.lt_trichotomy x 0 with h1 | rfl | h1
  ·obtain ⟨a1, a2⟩ := exact_neg hp.mono hv.ok hv.pos (by omega) hE h1 (by omega)
   have e := stoFind_cnt (s := s) (most := most) gn (by omega) (t := negV l - t + 1) (by omega) a2
   rw [sn] at e
   rw [if_pos a1, e, decide_eq_true h1]
   by_cases hc : cnt (keptP s most (rowV part true l)) (part x.natAbs) = 0
   ·rw [if_pos hc, if_pos ⟨by omega, hc⟩]; rfl
   ·rw [if_neg hc, if_neg (fun h => hc h.2)]
    show some _ = some _
    rw [hp.st x (by omega) hr.1 hr.2, decide_eq_true h1]
  ·obtain ⟨a1, a2⟩ := exact_zero hv.pos hE
   rw [if_neg (by omega), if_pos a2, if_neg (by simp), hp.s0]
  ·obtain ⟨a1, a2, a3⟩ := exact_pos hp.mono hv.ok hv.pos (by omega) hE h1
   have e := stoFind_cnt (s := s) (most := most) gp (by omega) (t := t - negV l - zeroV l) (by omega) a3
   rw [sp] at e
   rw [if_neg (by omega), if_neg (by omega), e, decide_eq_false (by omega : ¬ x < 0)]
   by_cases hc : cnt (keptP s most (rowV part false l)) (part x.natAbs) = 0
   ·rw [if_pos hc, if_pos ⟨by omega, hc⟩]; rfl
   ·rw [if_neg hc, if_neg (fun h => hc h.2)]
    show some _ = some _
    rw [hp.st x (by omega) hr.1 hr.2, decide_eq_false (by omega : ¬ x < 0)]
theorem bfind_v (b : Nat) (S : List Nat) (k : Bool) (part : Nat → Int) (rep stand : Int → Int) (s : Bool) (most t : Int) (l : List (Int × Int)) (w : World) (h : BnV w b S k part rep s most l) (hp : PS part rep stand) (hv : VOk l) (ht : 0 ≤ t ∧ t < 18446744073709551616) :
  Calls Tryz.prog 187 #[.pointer (some ⟨b, 0, none⟩), .int .u64 t] w fun e w' => e = .returned (optI (docFind13 part stand s most l t)) ∧ Below w.heap.size w w' := by
 obtain ⟨PB, pa, c0, c1, S0, S1, rfl, h⟩ := h
 obtain ⟨t1, t2, t3, t4⟩ := hv.three
 have := bfind_at _ _ _ _ _ _ _ _ _ _ _ _ _ _ _ _ _ t w h t3 (by rw [t1]; exact hv.sum) ht
 rw [binFind_doc hp hv ht.1] at this
 exact this
theorem blost_v (b : Nat) (S : List Nat) (k : Bool) (part : Nat → Int) (rep : Int → Int) (s : Bool) (most : Int) (l : List (Int × Int)) (w : World) (h : BnV w b S k part rep s most l) :
  Calls Tryz.prog 201 #[.pointer (some ⟨b, 0, none⟩)] w fun e w' => e = .returned (.tuple #[.int .u64 (negV l - sumP (keptP s most (rowV part true l))), .int .u64 (posV l - sumP (keptP s most (rowV part false l)))]) ∧ Below w.heap.size w w' := by
 obtain ⟨PB, pa, c0, c1, S0, S1, rfl, h⟩ := h
 exact blost_at _ _ _ _ _ _ _ _ _ _ _ _ _ _ _ _ _ w h
theorem brows_v (b : Nat) (S : List Nat) (k : Bool) (part : Nat → Int) (rep : Int → Int) (s : Bool) (most : Int) (l : List (Int × Int)) (w : World) (h : BnV w b S k part rep s most l) :
  Calls Tryz.prog 200 #[.pointer (some ⟨b, 0, none⟩)] w fun e w' => RowsR (keptP s most (rowV part true l)) (keptP s most (rowV part false l)) w e w' := by
 obtain ⟨PB, pa, c0, c1, S0, S1, rfl, h⟩ := h
 exact brows_at _ _ _ _ _ _ _ _ _ _ _ _ _ _ _ _ _ w h
theorem bzero_v (b : Nat) (S : List Nat) (k : Bool) (part : Nat → Int) (rep : Int → Int) (s : Bool) (most : Int) (l : List (Int × Int)) (w : World) (h : BnV w b S k part rep s most l) :
  Calls Tryz.prog 203 #[.pointer (some ⟨b, 0, none⟩)] w fun e w' => e = .returned (.int .u64 (zeroV l)) ∧ w = w' := by
 obtain ⟨PB, pa, c0, c1, S0, S1, rfl, h⟩ := h
 exact bzero_at _ _ _ _ _ _ _ w h.at'
theorem bmerge_v (b o : Nat) (S T : List Nat) (k k' : Bool) (part : Nat → Int) (rep rep' : Int → Int) (s : Bool) (most : Int) (l l' : List (Int × Int)) (w : World) (h : BnV w b S k part rep s most l) (h' : BnV w o T k' part rep' s most l') (hap : Apart S T) (hv : VOk l) (hv' : VOk l') (hs : sumP l + sumP l' ≤ 9223372036854775807) :
  Calls Tryz.prog 205 #[.pointer (some ⟨b, 0, none⟩), .pointer (some ⟨o, 0, none⟩)] w fun e w' => e = .returned (.int .i64 0) ∧ BpvR b S k part rep s most (l ++ l') w w' ∧ BnV w' o T k' part rep' s most l' := by
 have hm := h.m14
 have H' := h'
 obtain ⟨PB, pa, c0, c1, S0, S1, rfl, h⟩ := h
 obtain ⟨PB', pa', d0, d1, U0, U1, rfl, h'⟩ := h'
 obtain ⟨t1, t2, t3, t4⟩ := hv.three
 obtain ⟨u1, u2, u3, u4⟩ := hv'.three
 refine (bmerge_at _ _ _ _ _ _ _ _ _ _ _ _ _ _ _ _ _ _ _ _ _ _ _ _ _ _ _ _ _ _ _ _ _ _ w h h' hap t3 u3 t1 u1 hs).mono ?_
 rintro e w' ⟨rfl, S', hg, hB, hF⟩
 have c2 : ∀ bl, capAll s most (keptP s most (rowV part bl l)) (keptP s most (rowV part bl l')) = keptP s most (rowV part bl (l ++ l')) := fun bl => by
  have a1 := rowV_sum (part := part) (below := bl) hv.pos (by have := hv.sum; omega)
  have a2 := rowV_sum (part := part) (below := bl) hv'.pos (by have := hv'.sum; omega)
  have a3 := (vsum_filter hv.pos fun v => sgn bl v.1).2
  have a4 := (vsum_filter hv'.pos fun v => sgn bl v.1).2
  rw [capAll_merge hm.1 (rowV_gd hv.pos (by have := hv.sum; omega)) (rowV_gd hv'.pos (by have := hv'.sum; omega)) (by omega), rowV_app hv.pos hv'.pos (by omega)]
 refine ⟨rfl, ⟨S', hg, ?_, hF⟩, H'.frame hF hap.symm⟩
 unfold BnV
 rw [negV_app, posV_app, zeroV_app, ← c2, ← c2]
 exact hB
end Go.Proofs.YtlbnlmhcpephbaaGreatDoor

namespace Go.Proofs.YtlbnlmhcpephbaaGreatDoor
open Go.RowKit
theorem partT_mono (L : List Nat) : PartMono (partT L) := fun x y hx hxy hy => by
 have : (L.filter fun z => decide (z ≤ x)).length ≤ (L.filter fun z => decide (z ≤ y)).length := by
  rw [← List.countP_eq_length_filter, ← List.countP_eq_length_filter]
  exact List.countP_mono_left fun z _ hz => by simp only [decide_eq_true_eq] at hz ⊢; omega
 unfold partT
 omega
def Cs (u v d : Int) (k : Bool) (part : Nat → Int) (rep stand : Int → Int) : Prop :=
 (k = true ∧ 1 ≤ d ∧ d ≤ 4 ∧ part = partD d ∧ rep = repD d ∧ stand = standV (repM (gOf d))) ∨ (k = false ∧ d = 0 ∧ ∃ (un vn : Nat) (L : List Nat), u = un ∧ v = vn ∧ TabOk un vn L ∧ part = partT L ∧ rep = repT un vn L ∧ stand = standV (repTN un vn L))
def CsNo (u v d : Int) : Prop := d = 0 ∧ (goodC u v = false ∨ ∃ un vn : Nat, u = un ∧ v = vn ∧ 0 < un ∧ un < vn ∧ vn ≤ 2147483648 ∧ cellsF un vn 4096 1 = none)
theorem cs_cases {u v d : Int} (hu : 0 ≤ u) (hv : 0 ≤ v) (h0 : 0 ≤ d) (h4 : d ≤ 4) : (∃ k part rep stand, Cs u v d k part rep stand) ∨ CsNo u v d := by
 by_cases hd : d = 0
 ·cases hg : goodC u v with
  | false => exact .inr ⟨hd, .inl hg⟩
  | true =>
   obtain ⟨g1, g2, g3⟩ := goodC_iff.1 hg
   obtain ⟨un, rfl⟩ := Int.eq_ofNat_of_zero_le hu
   obtain ⟨vn, rfl⟩ := Int.eq_ofNat_of_zero_le hv
   cases hc : cellsF un vn 4096 1 with
   | none => exact .inr ⟨hd, .inr ⟨un, vn, rfl, rfl, by omega, by omega, by omega, hc⟩⟩
   | some L => exact .inl ⟨false, _, _, _, .inr ⟨rfl, hd, un, vn, L, rfl, rfl, ⟨hc, by omega, by omega, by omega⟩, rfl, rfl, rfl⟩⟩
 ·exact .inl ⟨true, _, _, _, .inl ⟨rfl, by omega, h4, rfl, rfl, rfl⟩⟩
theorem standV_val {rep' : Nat → Nat} {rep : Int → Int} {part : Nat → Int} {x : Int} (hx : x ≠ 0) (h : rep (part x.natAbs) = (rep' x.natAbs : Nat)) : standV rep' x = valZ rep (part x.natAbs) (decide (x < 0)) := by
 unfold standV valZ
 rw [if_neg hx, h]
 by_cases h1 : 0 < x
 ·rw [if_pos h1, decide_eq_false (by omega), if_neg (by simp)]
 ·rw [if_neg h1, decide_eq_true (by omega), if_pos rfl]
section
variable {u v d : Int} {k : Bool} {part : Nat → Int} {rep stand : Int → Int}
theorem Cs.ps (h : Cs u v d k part rep stand) : PS part rep stand := by
 rcases h with ⟨_, h1, h4, rfl, rfl, rfl⟩ | ⟨_, _, un, vn, L, _, _, ht, rfl, rfl, rfl⟩
 ·exact ⟨partD_mono d, fun m a b => by have := partD_rng (d := d) a b; omega, fun x hx a b => standV_val hx (repD_part (by omega) (by omega)), rfl⟩
 ·exact ⟨partT_mono L, fun m a b => by have := ht.part (m := m) a; have := ht.len; omega, fun x hx a b => standV_val hx (repT_part un vn L _), rfl⟩
end
def DocAt (w : World) (m : Nat) (TB : List Nat) (u v d side most : Int) (A : Option Addr) (len cap : Nat) : Prop :=
 (1 ≤ d ∧ BinsAt w m (.slice none 0 0) (.slice none 0 0) d side most A len cap ∧ TB = [m]) ∨
 (d = 0 ∧ ∃ (un vn : Nat) (L : List Nat) (A1 : Option Addr) (c1 : Nat) (A2 : Option Addr) (c2 : Nat), u = un ∧ v = vn ∧ TabOk un vn L ∧ BinsAt w m (.slice A1 L.length c1) (.slice A2 L.length c2) 0 side most A len cap ∧ RdU w A1 (castL L) ∧ RdU w A2 (castL (L.map (repN un vn))) ∧ TB = m :: (blk A1 ++ blk A2))
theorem rdU_ne {w : World} {m : Nat} {A A' A'' : Option Addr} {n1 c1 n2 c2 n3 c3 : Nat} {d side most : Int} {A0 : Option Addr} {xs : List Int} (h : BinsAt w m (.slice A n1 c1) (.slice A' n2 c2) d side most A'' n3 c3) (hr : RdU w A0 xs) (hx : xs ≠ []) : ∀ g, A0 = some g → g.block ≠ m := by
 rintro g hg rfl
 obtain ⟨b, o, e, hb, hc⟩ := hr.at 0 (List.length_pos_iff.2 hx)
 rw [hg] at e
 simp only [Option.some.injEq] at e
 subst e
 have h' : w.heap[b]? = some (.cells #[.slice A n1 c1, .slice A' n2 c2, .int .i64 d, .int .i64 side, .int .i64 most, .slice A'' n3 c3] 83) := h
 unfold World.cell? at hc
 simp [h'] at hc
 match o, hc with
 | 0, hc => simp at hc
 | 1, hc => simp at hc
 | 2, hc => simp at hc
 | 3, hc => simp at hc
 | 4, hc => simp at hc
 | 5, hc => simp at hc
 | n + 6, hc => simp at hc
theorem castL_ne {L : List Nat} (h : 0 < L.length) : castL L ≠ [] := fun e => by
 have := congrArg List.length e
 rw [castL_length, List.length_nil] at this
 omega
section
variable {w w' : World} {m : Nat} {TB S : List Nat} {u v d side most : Int} {A : Option Addr} {len cap : Nat} {k : Bool} {part : Nat → Int} {rep stand : Int → Int}
theorem DocAt.get (h : DocAt w m TB u v d side most A len cap) (hc : Cs u v d k part rep stand) : ∃ lows reps, BinsAt w m lows reps d side most A len cap ∧ PartOk w m part ∧ StandOk w m stand := by
 rcases h with ⟨h1, h2, _⟩ | ⟨rfl, un, vn, L, A1, c1, A2, c2, rfl, rfl, ht, h2, h3, h4, _⟩
 ·rcases hc with ⟨_, _, d4, rfl, _, rfl⟩ | ⟨_, d0, _⟩
  ·exact ⟨_, _, h2, partD_ok w m _ _ d side most A len cap h2 h1 d4, standD_ok w m _ _ d side most A len cap h2 h1 d4⟩
  ·omega
 ·rcases hc with ⟨_, d1, _⟩ | ⟨_, _, un', vn', L', e1, e2, ht', rfl, _, rfl⟩
  ·omega
  ·obtain rfl : un = un' := by omega
   obtain rfl : vn = vn' := by omega
   obtain rfl : L = L' := Option.some.inj (ht.h.symm.trans ht'.h)
   exact ⟨_, _, h2, partT_ok w m un vn L A2 A1 c1 c2 side most A len cap ht h2 h3, standT_ok w m un vn L A2 A1 c1 c2 side most A len cap ht h2 h3 h4⟩
end
theorem Cs.one {u v d : Int} {k k' : Bool} {part part' : Nat → Int} {rep stand rep' stand' : Int → Int} (h : Cs u v d k part rep stand) (h' : Cs u v d k' part' rep' stand') : k = k' ∧ part = part' ∧ rep = rep' ∧ stand = stand' := by
 rcases h with ⟨rfl, h1, h4, rfl, rfl, rfl⟩ | ⟨rfl, hd, un, vn, L, e1, e2, ht, rfl, rfl, rfl⟩
 ·rcases h' with ⟨rfl, _, _, rfl, rfl, rfl⟩ | ⟨_, hd, _⟩
  ·exact ⟨rfl, rfl, rfl, rfl⟩
  ·omega
 ·rcases h' with ⟨_, hd', _⟩ | ⟨rfl, _, un', vn', L', e1', e2', ht', rfl, rfl, rfl⟩
  ·omega
  ·obtain rfl : un = un' := by omega
   obtain rfl : vn = vn' := by omega
   obtain rfl : L = L' := Option.some.inj (ht.h.symm.trans ht'.h)
   exact ⟨rfl, rfl, rfl, rfl⟩
set_option maxRecDepth 100000 in
set_option maxHeartbeats 1000000 in
theorem dnew_yes (u v d side most : Int) (k : Bool) (part : Nat → Int) (rep stand : Int → Int) (w : World) (hc : Cs u v d k part rep stand) :
  Calls Tryz.prog 16 #[.agg #[.int .u64 u, .int .u64 v], .int .i64 d, .int .i64 side, .int .i64 most] w fun e w' => (∃ m, e = .returned (.tuple #[.pointer (some ⟨m, 0, none⟩), .bool true]) ∧ (∃ TB, (∀ j ∈ m :: TB, w.heap.size ≤ j) ∧ DocAt w' m TB u v d side most none 0 0)) ∧ Below w.heap.size w w' := by
 rcases hc with ⟨_, h1, _⟩ | ⟨_, rfl, un, vn, L, rfl, rfl, ht, _⟩
 ·have hd0 : (d == 0) = false := beq_eq_false_iff_ne.2 (by omega)
  have hba : Below w.heap.size w ((w.alloc (.cells #[.int .u64 u, .int .u64 v] 25)).alloc (.cells #[.slice none 0 0, .slice none 0 0, .int .i64 d, .int .i64 side, .int .i64 most, .slice none 0 0] 83)) := (by repeat (first | with_reducible assumption | with_reducible exact Below.refl _ _ | with_reducible refine Below.drew ?_ | with_reducible refine Below.drewN ?_ _ | with_reducible refine Below.setCell ?_ (by first | omega | (simp; done) | (simp; omega)) _ | with_reducible refine Below.alloc ?_ (by first | omega | (simp; done) | (simp; omega) | (simp [World.setCell]; omega)) _))
  have am : At ((w.alloc (.cells #[.int .u64 u, .int .u64 v] 25)).alloc (.cells #[.slice none 0 0, .slice none 0 0, .int .i64 d, .int .i64 side, .int .i64 most, .slice none 0 0] 83)) (w.heap.size + 1) #[.slice none 0 0, .slice none 0 0, .int .i64 d, .int .i64 side, .int .i64 most, .slice none 0 0] 83 := At.new' _ _ _ (by simp)
  have HF : Hid ((∃ m, Ending.returned (.tuple #[.pointer (some ⟨w.heap.size + 1, 0, none⟩), .bool true]) = .returned (.tuple #[.pointer (some ⟨m, 0, none⟩), .bool true]) ∧ (∃ TB, (∀ j ∈ m :: TB, w.heap.size ≤ j) ∧ DocAt ((w.alloc (.cells #[.int .u64 u, .int .u64 v] 25)).alloc (.cells #[.slice none 0 0, .slice none 0 0, .int .i64 d, .int .i64 side, .int .i64 most, .slice none 0 0] 83)) m TB u v d side most none 0 0)) ∧ Below w.heap.size w ((w.alloc (.cells #[.int .u64 u, .int .u64 v] 25)).alloc (.cells #[.slice none 0 0, .slice none 0 0, .int .i64 d, .int .i64 side, .int .i64 most, .slice none 0 0] 83))) :=
   ⟨⟨_, rfl, [w.heap.size + 1], fun j hj => by simp at hj; omega, .inl ⟨h1, am, rfl⟩⟩, hba⟩
  clear h1 hba am
  go_enter Tryz.func16, Tryz.ntmps16
  go_wp2
  go_ret2
  exact HF.out
 ·have HG := Lib.hid fun W => rgoodC_any un vn W (by omega) (by have := ht.uv; have := ht.v1; omega) (by omega) (by have := ht.v1; omega)
  rw [goodC_iff.2 ⟨by have := ht.u0; omega, by have := ht.uv; omega, by have := ht.v1; omega⟩] at HG
  have HC := Lib.hid fun W => rcells_own un vn W ht.u0 ht.uv ht.v1
  have HT := Lib.hid ht
  have s0 := At.new' w #[.int .u64 un, .int .u64 vn] 25 rfl
  have hba : Below w.heap.size w ((w.alloc (.cells #[.int .u64 un, .int .u64 vn] 25)).alloc (.cells #[.slice none 0 0, .slice none 0 0, .int .i64 0, .int .i64 side, .int .i64 most, .slice none 0 0] 83)) := (by repeat (first | with_reducible assumption | with_reducible exact Below.refl _ _ | with_reducible refine Below.drew ?_ | with_reducible refine Below.drewN ?_ _ | with_reducible refine Below.setCell ?_ (by first | omega | (simp; done) | (simp; omega)) _ | with_reducible refine Below.alloc ?_ (by first | omega | (simp; done) | (simp; omega) | (simp [World.setCell]; omega)) _))
  have am : At ((w.alloc (.cells #[.int .u64 un, .int .u64 vn] 25)).alloc (.cells #[.slice none 0 0, .slice none 0 0, .int .i64 0, .int .i64 side, .int .i64 most, .slice none 0 0] 83)) (w.heap.size + 1) #[.slice none 0 0, .slice none 0 0, .int .i64 0, .int .i64 side, .int .i64 most, .slice none 0 0] 83 := At.new' _ _ _ (by simp)
  have s1 := s0.alloc (.cells #[.slice none 0 0, .slice none 0 0, .int .i64 0, .int .i64 side, .int .i64 most, .slice none 0 0] 83)
  clear ht s0
  go_enter Tryz.func16, Tryz.ntmps16
  go_wp2_with fail
  obtain ⟨W1, hW1⟩ : ∃ W, (w.alloc (.cells #[.int .u64 un, .int .u64 vn] 25)).alloc (.cells #[.slice none 0 0, .slice none 0 0, .int .i64 0, .int .i64 side, .int .i64 most, .slice none 0 0] 83) = W := ⟨_, rfl⟩
  obtain ⟨rb, hrb⟩ : ∃ r, w.heap.size = r := ⟨_, rfl⟩
  obtain ⟨m, hm⟩ : ∃ m, rb + 1 = m := ⟨_, rfl⟩
  have HM : Hid (w.heap.size ≤ m) := by show _ ≤ _; omega
  rw [hW1] at hba am s1
  rw [hrb] at s1 am
  rw [hm] at am
  simp only [hW1, hrb, hm]
  clear hW1 hrb hm
  refine (HG.out W1).mono ?_
  rintro e w2 ⟨rfl, hb⟩
  have HB2 := Lib.hid (keep1 hba hb)
  have s2 := s1.below hb
  have m2 := am.below hb
  have f2 := s2.two
  have l2 := s2.lt
  clear hb hba s1 am HG
  go_wp2_with fail
  refine (HC.out w2).mono ?_
  rintro e w3 ⟨hR, hb⟩
  have HB3 := Lib.hid (keep1 HB2.out hb)
  have m3 := m2.below hb
  unfold RcN at hR
  rw [HT.out.h] at hR
  obtain ⟨A, c, A2, c2, rfl, hr1, hr2, ho1, ho2⟩ := hR
  have HZ : Hid (w.heap.size ≤ w2.heap.size) := HB2.out.size
  clear hb HB2 m2 s2 f2 l2 HC
  obtain ⟨n, hn⟩ : ∃ n, L.length = n := ⟨_, rfl⟩
  have HNL := Lib.hid hn
  have hF : Frame [m] w3 ((w3.setCell ⟨m, 0, none⟩ (.slice A n c)).setCell ⟨m, 1, none⟩ (.slice A2 n c2)) := ((Frame.refl [m] w3).setc (.inl (by simp)) 0 _).setc (.inl (by simp)) 1 _
  have h5 : At ((w3.setCell ⟨m, 0, none⟩ (.slice A n c)).setCell ⟨m, 1, none⟩ (.slice A2 n c2)) m #[.slice A n c, .slice A2 n c2, .int .i64 0, .int .i64 side, .int .i64 most, .slice none 0 0] 83 := (m3.set_any 0 (.slice A n c) rfl).set_any 1 (.slice A2 n c2) rfl
  have HF : Hid ((∃ m', Ending.returned (.tuple #[.pointer (some ⟨m, 0, none⟩), .bool true]) = .returned (.tuple #[.pointer (some ⟨m', 0, none⟩), .bool true]) ∧ (∃ TB, (∀ j ∈ m' :: TB, w.heap.size ≤ j) ∧ DocAt ((w3.setCell ⟨m, 0, none⟩ (.slice A n c)).setCell ⟨m, 1, none⟩ (.slice A2 n c2)) m' TB un vn 0 side most none 0 0)) ∧ Below w.heap.size w ((w3.setCell ⟨m, 0, none⟩ (.slice A n c)).setCell ⟨m, 1, none⟩ (.slice A2 n c2))) := by
   refine ⟨⟨m, rfl, m :: (blk A ++ blk A2), fun j hj => ?_, .inr ⟨rfl, un, vn, L, A, c, A2, c2, rfl, rfl, HT.out, by rw [hn]; exact h5, Frame.rd hF hr1 fun g e => ?_, Frame.rd hF hr2 fun g e => ?_, rfl⟩⟩, (HB3.out.setCell HM.out _).setCell HM.out _⟩
   ·have hz := HZ.out
    have hm := HM.out
    simp only [List.mem_cons, List.mem_append] at hj
    rcases hj with rfl | rfl | hj | hj
    ·exact hm
    ·exact hm
    ·cases A with
     | none => simp [blk] at hj
     | some g => simp only [blk, List.mem_singleton] at hj; subst hj; exact Nat.le_trans hz (ho1 g rfl)
    ·cases A2 with
     | none => simp [blk] at hj
     | some g => simp only [blk, List.mem_singleton] at hj; subst hj; exact Nat.le_trans hz (ho2 g rfl)
   ·have := rdU_ne (A := none) (A' := none) (A'' := none) m3 hr1 (castL_ne HT.out.pos) g e
    simpa using this
   ·have := rdU_ne (A := none) (A' := none) (A'' := none) m3 hr2 (castL_ne (by rw [List.length_map]; exact HT.out.pos)) g e
    simpa using this
  have f3 := At.six m3
  have l3 := m3.lt
  rw [hn]
  clear hF h5 hr1 hr2 ho1 ho2 hn m3 HB3
  go_wp2
  go_ret2
  exact HF.out
set_option maxRecDepth 100000 in
set_option maxHeartbeats 1000000 in
theorem dnew_no (u v d side most : Int) (w : World) (hu : 0 ≤ u ∧ u < 18446744073709551616) (hv : 0 ≤ v ∧ v < 18446744073709551616) (hc : CsNo u v d) :
  Calls Tryz.prog 16 #[.agg #[.int .u64 u, .int .u64 v], .int .i64 d, .int .i64 side, .int .i64 most] w fun e w' => e = .returned (.tuple #[.pointer none, .bool false]) ∧ Below w.heap.size w w' := by
 obtain ⟨rfl, hc⟩ := hc
 have s0 := At.new' w #[.int .u64 u, .int .u64 v] 25 rfl
 have hba : Below w.heap.size w ((w.alloc (.cells #[.int .u64 u, .int .u64 v] 25)).alloc (.cells #[.slice none 0 0, .slice none 0 0, .int .i64 0, .int .i64 side, .int .i64 most, .slice none 0 0] 83)) := (by repeat (first | with_reducible assumption | with_reducible exact Below.refl _ _ | with_reducible refine Below.drew ?_ | with_reducible refine Below.drewN ?_ _ | with_reducible refine Below.setCell ?_ (by first | omega | (simp; done) | (simp; omega)) _ | with_reducible refine Below.alloc ?_ (by first | omega | (simp; done) | (simp; omega) | (simp [World.setCell]; omega)) _))
 have s1 := s0.alloc (.cells #[.slice none 0 0, .slice none 0 0, .int .i64 0, .int .i64 side, .int .i64 most, .slice none 0 0] 83)
 have HG := Lib.hid fun W => rgoodC_any u v W hu.1 hu.2 hv.1 hv.2
 rcases hc with hg | ⟨un, vn, rfl, rfl, h1, h2, h3, h4⟩
 ·rw [hg] at HG
  clear hg hu hv s0
  go_enter Tryz.func16, Tryz.ntmps16
  go_wp2_with fail
  refine (HG.out _).mono ?_
  rintro e w2 ⟨rfl, hb⟩
  have HB2 := Lib.hid (keep1 hba hb)
  clear hb hba s1 HG
  go_wp2
  go_ret2
  exact ⟨rfl, HB2.out⟩
 ·rw [goodC_iff.2 ⟨by omega, by omega, by omega⟩] at HG
  have HC := Lib.hid fun W => rcells_own un vn W h1 h2 h3
  have H4 := Lib.hid h4
  clear h1 h2 h3 h4 hu hv s0
  go_enter Tryz.func16, Tryz.ntmps16
  go_wp2_with fail
  obtain ⟨W1, hW1⟩ : ∃ W, (w.alloc (.cells #[.int .u64 un, .int .u64 vn] 25)).alloc (.cells #[.slice none 0 0, .slice none 0 0, .int .i64 0, .int .i64 side, .int .i64 most, .slice none 0 0] 83) = W := ⟨_, rfl⟩
  obtain ⟨rb, hrb⟩ : ∃ r, w.heap.size = r := ⟨_, rfl⟩
  have HRB := Lib.hid hrb
  rw [hW1] at hba s1
  rw [hrb] at s1
  simp only [hW1, hrb]
  clear hW1 hrb
  refine (HG.out W1).mono ?_
  rintro e w2 ⟨rfl, hb⟩
  have HB2 := Lib.hid (keep1 hba hb)
  have s2 := s1.below hb
  have f2 := s2.two
  have l2 := s2.lt
  clear hb hba s1 HG
  go_wp2_with fail
  refine (HC.out w2).mono ?_
  rintro e w3 ⟨hR, hb⟩
  have HB3 := Lib.hid (keep1 HB2.out hb)
  unfold RcN at hR
  rw [H4.out] at hR
  obtain rfl := hR
  clear hb HB2 s2 f2 l2 HC
  go_wp2
  go_ret2
  exact ⟨rfl, HB3.out⟩
end Go.Proofs.YtlbnlmhcpephbaaGreatDoor

namespace Go.Proofs.YtlbnlmhcpephbaaGreatDoor
open Go.RowKit
theorem pat_tab {n0 : Nat} {W : World} {b u v : Nat} {L : List Nat} (ht : TabOk u v L) (h : TabN n0 W b u v L (L.map (repN u v))) : ∃ PB, PAt W false b (partT L) (repT u v L) PB ∧ ∀ j ∈ PB, n0 ≤ j := by
 obtain ⟨hb, A, c, A2, c2, h1, h2, h3, o1, o2⟩ := h
 rw [List.length_map] at h1
 refine ⟨b :: (blk A ++ blk A2), ⟨u, v, L, ht, rfl, rfl, A, c, A2, c2, h1, h2, h3, rfl⟩, fun j hj => ?_⟩
 simp only [List.mem_cons, List.mem_append] at hj
 rcases hj with rfl | hj | hj
 ·exact hb
 ·cases A with
  | none => simp [blk] at hj
  | some g => simp only [blk, List.mem_singleton] at hj; subst hj; exact o1 g rfl
 ·cases A2 with
  | none => simp [blk] at hj
  | some g => simp only [blk, List.mem_singleton] at hj; subst hj; exact o2 g rfl
theorem bn_within {n0 : Nat} {w2 w3 : World} {b : Nat} {PB S : List Nat} {k s : Bool} {part : Nat → Int} {rep : Int → Int} {most : Int} (hz : n0 ≤ w2.heap.size) (hP : ∀ j ∈ PB, n0 ≤ j) (hW : Within S w2.heap.size w3.heap.size) (h : Bn w3 b (PB ++ S) k part rep s most [] [] 0 0 0) :
  Within (PB ++ S) n0 w3.heap.size := fun j hj => ⟨by
 rcases List.mem_append.1 hj with h1 | h1
 ·exact hP j h1
 ·exact Nat.le_trans hz (hW j h1).1, h.lt j hj⟩
end Go.Proofs.YtlbnlmhcpephbaaGreatDoor
