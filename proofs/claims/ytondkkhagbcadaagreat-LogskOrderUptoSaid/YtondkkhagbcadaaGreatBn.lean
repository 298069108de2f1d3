/- Contracts of package bins: fresh, New, Total, Zero, Most. -/
import Derived.Test.YtondkkhagbcadaaGreatProg
import Derived.Test.YtondkkhagbcadaaGreatPrt
import Derived.Test.YtondkkhagbcadaaGreatBins13
namespace Go.Proofs.YtondkkhagbcadaaGreat
open Go.RowKit

def sideZ : Bool → Int
  | true => 0
  | false => 1
/-- Bins: their block, their partition and its blocks, their two stores, and which blocks are whose. -/
structure BnB (PB : List Nat) (w : World) (b : Nat) (k : Bool) (pa : Nat) (part : Nat → Int) (rep : Int → Int) (s : Bool) (most : Int) (c0 c1 : Nat) (S0 S1 : List Nat) (ps0 ps1 : List (Int × Int)) (t0 t1 zero : Int) : Prop where
  at' : At w b #[.iface (pKnd k).T (.pointer (some ⟨pa, 0, none⟩)), .int .i64 (sideZ s), .int .i64 most, .iface (sKnd s).T (.pointer (some ⟨c0, 0, none⟩)), .iface (sKnd s).T (.pointer (some ⟨c1, 0, none⟩)), .int .u64 zero] 103
  pr : PAt w k pa part rep PB
  s0 : Sto w s c0 S0 most ps0 t0
  s1 : Sto w s c1 S1 most ps1 t1
  n0 : b ∉ S0
  n1 : b ∉ S1
  ap : Apart S0 S1
  nb : b ∉ PB
  a0 : Apart PB S0
  a1 : Apart PB S1
section
variable {PB : List Nat} {w w' : World} {b pa c0 c1 : Nat} {k s : Bool} {part : Nat → Int} {rep : Int → Int} {S0 S1 T : List Nat} {most t0 t1 zero zero' t : Int} {ps0 ps1 ps : List (Int × Int)}
theorem BnB.prt (h : BnB PB w b k pa part rep s most c0 c1 S0 S1 ps0 ps1 t0 t1 zero) : Prt w k pa part rep := h.pr.prt
theorem BnB.frame (h : BnB PB w b k pa part rep s most c0 c1 S0 S1 ps0 ps1 t0 t1 zero) (hf : Frame T w w') (hp : Apart PB T) (hb : b ∉ T) (h0 : Apart S0 T) (h1 : Apart S1 T) : BnB PB w' b k pa part rep s most c0 c1 S0 S1 ps0 ps1 t0 t1 zero :=
  ⟨hf.at h.at' hb, h.pr.frame hf hp, h.s0.frame hf h0, h.s1.frame hf h1, h.n0, h.n1, h.ap, h.nb, h.a0, h.a1⟩
theorem BnB.below (h : BnB PB w b k pa part rep s most c0 c1 S0 S1 ps0 ps1 t0 t1 zero) (hb : Below w.heap.size w w') : BnB PB w' b k pa part rep s most c0 c1 S0 S1 ps0 ps1 t0 t1 zero :=
  h.frame (T := []) (Frame.of_below hb) (fun _ _ => by simp) (by simp) (fun _ _ => by simp) (fun _ _ => by simp)
theorem BnB.side0 (h : BnB PB w b k pa part rep s most c0 c1 S0 S1 ps0 ps1 t0 t1 zero) (hg : GrownS S0 T w.heap.size) (hs : Sto w' s c0 T most ps t) (hf : Frame S0 w w') : BnB PB w' b k pa part rep s most c0 c1 T S1 ps ps1 t t1 zero := by
  have n : ∀ j, j < w.heap.size → j ∉ S0 → j ∉ T := fun j hj hn hm => by
    rcases hg j hm with h1 | h1
    · exact hn h1
    · omega
  exact ⟨hf.at h.at' h.n0, h.pr.frame hf h.a0, hs, h.s1.frame hf h.ap.symm, n _ h.at'.lt h.n0, h.n1, fun j hj hm => n j (h.s1.lt j hm) (h.ap.symm j hm) hj, h.nb, fun j hj => n j (h.pr.lt j hj) (h.a0 j hj), h.a1⟩
theorem BnB.side1 (h : BnB PB w b k pa part rep s most c0 c1 S0 S1 ps0 ps1 t0 t1 zero) (hg : GrownS S1 T w.heap.size) (hs : Sto w' s c1 T most ps t) (hf : Frame S1 w w') : BnB PB w' b k pa part rep s most c0 c1 S0 T ps0 ps t0 t zero := by
  have n : ∀ j, j < w.heap.size → j ∉ S1 → j ∉ T := fun j hj hn hm => by
    rcases hg j hm with h1 | h1
    · exact hn h1
    · omega
  exact ⟨hf.at h.at' h.n1, h.pr.frame hf h.a1, h.s0.frame hf h.ap, hs, h.n0, n _ h.at'.lt h.n1, fun j hj => n j (h.s0.lt j hj) (h.ap j hj), h.nb, h.a0, fun j hj => n j (h.pr.lt j hj) (h.a1 j hj)⟩
theorem BnB.noughts (h : BnB PB w b k pa part rep s most c0 c1 S0 S1 ps0 ps1 t0 t1 zero) : BnB PB (w.setCell ⟨b, 5, none⟩ (.int .u64 zero')) b k pa part rep s most c0 c1 S0 S1 ps0 ps1 t0 t1 zero' := by
  have hF := Frame.set [b] w b 5 (.int .u64 zero') (by simp)
  exact ⟨h.at'.set_any 5 _ rfl, h.pr.frame hF (fun j hj hn => h.nb (by simp at hn; rwa [← hn])), h.s0.frame hF (fun j hj hn => h.n0 (by simp at hn; rwa [← hn])), h.s1.frame hF (fun j hj hn => h.n1 (by simp at hn; rwa [← hn])), h.n0, h.n1, h.ap, h.nb, h.a0, h.a1⟩
end
/-- Bins of these rows, and all their blocks. -/
def Bn (w : World) (b : Nat) (S : List Nat) (k : Bool) (part : Nat → Int) (rep : Int → Int) (s : Bool) (most : Int) (ps0 ps1 : List (Int × Int)) (t0 t1 zero : Int) : Prop :=
  ∃ PB pa c0 c1 S0 S1, S = PB ++ (b :: (S0 ++ S1)) ∧ BnB PB w b k pa part rep s most c0 c1 S0 S1 ps0 ps1 t0 t1 zero
section
variable {w w' : World} {b : Nat} {k s : Bool} {part : Nat → Int} {rep : Int → Int} {S T : List Nat} {most t0 t1 zero : Int} {ps0 ps1 : List (Int × Int)}
theorem Bn.frame (h : Bn w b S k part rep s most ps0 ps1 t0 t1 zero) (hf : Frame T w w') (hn : Apart S T) : Bn w' b S k part rep s most ps0 ps1 t0 t1 zero := by
  obtain ⟨PB, pa, c0, c1, S0, S1, rfl, h⟩ := h
  exact ⟨PB, pa, c0, c1, S0, S1, rfl, h.frame hf (fun k hk => hn k (by simp [hk])) (hn b (by simp)) (fun k hk => hn k (by simp [hk])) (fun k hk => hn k (by simp [hk]))⟩
theorem Bn.below (h : Bn w b S k part rep s most ps0 ps1 t0 t1 zero) (hb : Below w.heap.size w w') : Bn w' b S k part rep s most ps0 ps1 t0 t1 zero := h.frame (T := []) (Frame.of_below hb) (fun _ _ => by simp)
theorem Bn.lt (h : Bn w b S k part rep s most ps0 ps1 t0 t1 zero) : ∀ j ∈ S, j < w.heap.size := by
  obtain ⟨PB, pa, c0, c1, S0, S1, rfl, h⟩ := h
  intro j hj
  simp only [List.mem_cons, List.mem_append] at hj
  rcases hj with hj | rfl | hj | hj
  · exact h.pr.lt j hj
  · exact h.at'.lt
  · exact h.s0.lt j hj
  · exact h.s1.lt j hj
end
theorem fresh_any (s : Bool) (most : Int) (w : World) (h1 : 1 ≤ most) (h2 : most ≤ 4096) :
    Calls Tryz.prog 72 #[.int .i64 (sideZ s), .int .i64 most] w fun e w' => (∃ c S, e = .returned (.tuple #[.iface (sKnd s).T (.pointer (some ⟨c, 0, none⟩)), .int .i64 0]) ∧ Within S w.heap.size w'.heap.size ∧ Sto w' s c S most [] 0) ∧ Below w.heap.size w w' := by
  cases s
  · have HN := Lib.hid (Hi.lnew_any most w h1 h2)
    show Calls _ _ #[.int .i64 1, .int .i64 most] _ _
    clear h1 h2
    go_enter Tryz.func72, Tryz.ntmps72
    go_wp2_with fail
    refine HN.out.mono ?_
    rintro e w1 ⟨⟨c, S, rfl, _, hW, hS⟩, hb⟩
    have HF : Hid ((∃ c' S', Ending.returned (.tuple #[.iface 151 (.pointer (some ⟨c, 0, none⟩)), .int .i64 0]) = .returned (.tuple #[.iface (sKnd false).T (.pointer (some ⟨c', 0, none⟩)), .int .i64 0]) ∧ Within S' w.heap.size w1.heap.size ∧ Sto w1 false c' S' most [] 0) ∧ Below w.heap.size w w1) := ⟨⟨c, S, rfl, hW, hS⟩, hb⟩
    clear hW hS hb HN
    go_wp2
    go_ret2
    exact HF.out
  · have HN := Lib.hid (Lo.lnew_any most w h1 h2)
    show Calls _ _ #[.int .i64 0, .int .i64 most] _ _
    clear h1 h2
    go_enter Tryz.func72, Tryz.ntmps72
    go_wp2_with fail
    refine HN.out.mono ?_
    rintro e w1 ⟨⟨c, S, rfl, _, hW, hS⟩, hb⟩
    have HF : Hid ((∃ c' S', Ending.returned (.tuple #[.iface 149 (.pointer (some ⟨c, 0, none⟩)), .int .i64 0]) = .returned (.tuple #[.iface (sKnd true).T (.pointer (some ⟨c', 0, none⟩)), .int .i64 0]) ∧ Within S' w.heap.size w1.heap.size ∧ Sto w1 true c' S' most [] 0) ∧ Below w.heap.size w w1) := ⟨⟨c, S, rfl, hW, hS⟩, hb⟩
    clear hW hS hb HN
    go_wp2
    go_ret2
    exact HF.out
theorem fresh_bad (s : Bool) (most : Int) (w : World) (h : most < 1 ∨ 4096 < most) :
    Calls Tryz.prog 72 #[.int .i64 (sideZ s), .int .i64 most] w fun e w' => (∃ v, e = .returned (.tuple #[v, .int .i64 1])) ∧ w = w' := by
  cases s
  · have HN := Lib.hid (Hi.lnew_bad most w h)
    show Calls _ _ #[.int .i64 1, .int .i64 most] _ _
    clear h
    go_enter Tryz.func72, Tryz.ntmps72
    go_wp2_with fail
    refine HN.out.mono ?_
    rintro e w1 ⟨rfl, rfl⟩
    clear HN
    go_wp2
    go_ret2
    exact ⟨⟨_, rfl⟩, rfl⟩
  · have HN := Lib.hid (Lo.lnew_bad most w h)
    show Calls _ _ #[.int .i64 0, .int .i64 most] _ _
    clear h
    go_enter Tryz.func72, Tryz.ntmps72
    go_wp2_with fail
    refine HN.out.mono ?_
    rintro e w1 ⟨rfl, rfl⟩
    clear HN
    go_wp2
    go_ret2
    exact ⟨⟨_, rfl⟩, rfl⟩
/-- An interface's value that is some is not nil. -/
theorem nil77 (k : Bool) (pa : Nat) (w : World) : (binOp .eql 99 (.iface (pKnd k).T (.pointer (some ⟨pa, 0, none⟩))) .nilIface).run Tryz.prog w = .ok (.bool false) w := by cases k <;> kernel_rfl
theorem bn_new {w w1 w2 : World} {k s : Bool} {pa c0 c1 : Nat} {part : Nat → Int} {rep : Int → Int} {PB S0 S1 : List Nat} {most z : Int} {T sT : TypeId} (hp : PAt w k pa part rep PB) (h1 : Below w.heap.size w w1) (h2 : Below w1.heap.size w1 w2)
    (hS0 : Sto w1 s c0 S0 most [] 0) (hW0 : Within S0 w.heap.size w1.heap.size) (hS1 : Sto w2 s c1 S1 most [] 0) (hW1 : Within S1 w1.heap.size w2.heap.size) (hz : sideZ s = z) (hT : (pKnd k).T = T) (hs : (sKnd s).T = sT) :
    (∃ b S, Ending.returned (.tuple #[.pointer (some ⟨w2.heap.size, 0, none⟩), .int .i64 0]) = .returned (.tuple #[.pointer (some ⟨b, 0, none⟩), .int .i64 0]) ∧ Within S w.heap.size (w2.alloc (.cells #[.iface T (.pointer (some ⟨pa, 0, none⟩)), .int .i64 z, .int .i64 most, .iface sT (.pointer (some ⟨c0, 0, none⟩)), .iface sT (.pointer (some ⟨c1, 0, none⟩)), .int .u64 0] 103)).heap.size ∧
      Bn (w2.alloc (.cells #[.iface T (.pointer (some ⟨pa, 0, none⟩)), .int .i64 z, .int .i64 most, .iface sT (.pointer (some ⟨c0, 0, none⟩)), .iface sT (.pointer (some ⟨c1, 0, none⟩)), .int .u64 0] 103)) b (PB ++ S) k part rep s most [] [] 0 0 0) ∧
    Below w.heap.size w (w2.alloc (.cells #[.iface T (.pointer (some ⟨pa, 0, none⟩)), .int .i64 z, .int .i64 most, .iface sT (.pointer (some ⟨c0, 0, none⟩)), .iface sT (.pointer (some ⟨c1, 0, none⟩)), .int .u64 0] 103)) := by
  subst hz hT hs
  have ha := At.new w2 #[.iface (pKnd k).T (.pointer (some ⟨pa, 0, none⟩)), .int .i64 (sideZ s), .int .i64 most, .iface (sKnd s).T (.pointer (some ⟨c0, 0, none⟩)), .iface (sKnd s).T (.pointer (some ⟨c1, 0, none⟩)), .int .u64 0] 103
  have hba : Below w2.heap.size w2 (w2.alloc (.cells #[.iface (pKnd k).T (.pointer (some ⟨pa, 0, none⟩)), .int .i64 (sideZ s), .int .i64 most, .iface (sKnd s).T (.pointer (some ⟨c0, 0, none⟩)), .iface (sKnd s).T (.pointer (some ⟨c1, 0, none⟩)), .int .u64 0] 103)) := (Below.refl _ _).alloc (Nat.le_refl _) _
  obtain ⟨W3, hW3⟩ : ∃ W, w2.alloc (.cells #[.iface (pKnd k).T (.pointer (some ⟨pa, 0, none⟩)), .int .i64 (sideZ s), .int .i64 most, .iface (sKnd s).T (.pointer (some ⟨c0, 0, none⟩)), .iface (sKnd s).T (.pointer (some ⟨c1, 0, none⟩)), .int .u64 0] 103) = W := ⟨_, rfl⟩
  rw [hW3] at ha hba ⊢
  have z1 := h1.size
  have z2 := h2.size
  have z3 := hba.size
  have l3 := ha.lt
  have h12 := keep1 h1 h2
  have h13 := keep1 h12 hba
  have hH : BnB PB W3 w2.heap.size k pa part rep s most c0 c1 S0 S1 [] [] 0 0 0 := by
    refine ⟨ha, hp.below h13, hS0.below (keep1 h2 hba), hS1.below hba, fun h => ?_, fun h => ?_, fun j hj hm => ?_, fun h => ?_, fun j hj hm => ?_, fun j hj hm => ?_⟩
    · have := (hW0 _ h).2; omega
    · have := (hW1 _ h).2; omega
    · have := (hW0 j hj).2; have := (hW1 j hm).1; omega
    · have := hp.lt _ h; omega
    · have := hp.lt j hj; have := (hW0 j hm).1; omega
    · have := hp.lt j hj; have := (hW1 j hm).1; omega
  refine ⟨⟨_, w2.heap.size :: (S0 ++ S1), rfl, fun j hj => ?_, PB, pa, c0, c1, S0, S1, rfl, hH⟩, h13⟩
  simp only [List.mem_cons, List.mem_append] at hj
  rcases hj with rfl | hj | hj
  · omega
  · have := hW0 j hj; omega
  · have := hW1 j hj; omega
set_option maxHeartbeats 1000000 in
theorem bnew_any (PB : List Nat) (k : Bool) (pa : Nat) (part : Nat → Int) (rep : Int → Int) (s : Bool) (most : Int) (w : World) (hp : PAt w k pa part rep PB) (h1 : 1 ≤ most) (h2 : most ≤ 4096) :
    Calls Tryz.prog 51 #[.iface (pKnd k).T (.pointer (some ⟨pa, 0, none⟩)), .int .i64 (sideZ s), .int .i64 most] w fun e w' => (∃ b S, e = .returned (.tuple #[.pointer (some ⟨b, 0, none⟩), .int .i64 0]) ∧ Within S w.heap.size w'.heap.size ∧ Bn w' b (PB ++ S) k part rep s most [] [] 0 0 0) ∧ Below w.heap.size w w' := by
  have HN := Lib.hid fun W => fresh_any s most W h1 h2
  have hnil := nil77 k pa
  have HFN := Lib.hid fun (c0 c1 : Nat) (S0 S1 : List Nat) (w1 w2 : World) (z : Int) (T sT : TypeId) (a1 : Below w.heap.size w w1) (a2 : Below w1.heap.size w1 w2) (a3 : Sto w1 s c0 S0 most [] 0) a4 (a5 : Sto w2 s c1 S1 most [] 0) a6 a7 a8 a9 => bn_new (z := z) (T := T) (sT := sT) hp a1 a2 a3 a4 a5 a6 a7 a8 a9
  obtain ⟨T, hT⟩ : ∃ T, (pKnd k).T = T := ⟨_, rfl⟩
  have HT := Lib.hid hT
  rw [hT] at hnil ⊢
  obtain ⟨zz, hzz⟩ : ∃ z, sideZ s = z := ⟨_, rfl⟩
  have HZ : Hid (zz = 0 ∨ zz = 1) := by show _ ∨ _; rw [← hzz]; cases s; exact .inr rfl; exact .inl rfl
  have HZZ := Lib.hid hzz
  rw [hzz] at HN ⊢
  obtain ⟨sT, hsT⟩ : ∃ z, (sKnd s).T = z := ⟨_, rfl⟩
  have HST := Lib.hid hsT
  rw [hsT] at HN
  clear hp h1 h2 hT hzz hsT
  rcases HZ.out with rfl | rfl
  all_goals
    go_enter Tryz.func51, Tryz.ntmps51
    go_wp2_with fail
    refine (HN.out w).mono ?_
    rintro e w1 ⟨⟨c0, S0, rfl, hW0, hS0⟩, hb1⟩
    have HS0 := Lib.hid hS0
    have HW0 := Lib.hid hW0
    have HB1 := Lib.hid hb1
    clear hW0 hS0 hb1
    go_wp2_with fail
    refine (HN.out w1).mono ?_
    rintro e w2 ⟨⟨c1, S1, rfl, hW1, hS1⟩, hb2⟩
    have HF := Lib.hid (HFN.out c0 c1 S0 S1 w1 w2 _ T sT HB1.out hb2 HS0.out HW0.out hS1 hW1 HZZ.out HT.out HST.out)
    clear HS0 HW0 HB1 hW1 hS1 hb2 HN HFN
    go_wp2
    go_ret2
    exact HF.out
theorem bnew_bad (k : Bool) (pa : Nat) (s : Bool) (most : Int) (w : World) (h : most < 1 ∨ 4096 < most) :
    Calls Tryz.prog 51 #[.iface (pKnd k).T (.pointer (some ⟨pa, 0, none⟩)), .int .i64 (sideZ s), .int .i64 most] w fun e w' => e = .returned (.tuple #[.pointer none, .int .i64 1]) ∧ w = w' := by
  have HN := Lib.hid (fresh_bad s most w h)
  have hnil := nil77 k pa
  obtain ⟨T, hT⟩ : ∃ T, (pKnd k).T = T := ⟨_, rfl⟩
  rw [hT] at hnil ⊢
  obtain ⟨zz, hzz⟩ : ∃ z, sideZ s = z := ⟨_, rfl⟩
  have HZ : Hid (zz = 0 ∨ zz = 1) := by show _ ∨ _; rw [← hzz]; cases s; exact .inr rfl; exact .inl rfl
  rw [hzz] at HN ⊢
  clear hT hzz h
  rcases HZ.out with rfl | rfl
  all_goals
    go_enter Tryz.func51, Tryz.ntmps51
    go_wp2_with fail
    refine HN.out.mono ?_
    rintro e w1 ⟨⟨v, rfl⟩, rfl⟩
    clear HN
    go_wp2
    go_ret2
    exact ⟨rfl, rfl⟩
theorem bnew_side (k : Bool) (pa : Nat) (z most : Int) (w : World) (h : z ≠ 0 ∧ z ≠ 1) :
    Calls Tryz.prog 51 #[.iface (pKnd k).T (.pointer (some ⟨pa, 0, none⟩)), .int .i64 z, .int .i64 most] w fun e w' => e = .returned (.tuple #[.pointer none, .int .i64 1]) ∧ w = w' := by
  have hnil := nil77 k pa
  obtain ⟨T, hT⟩ : ∃ T, (pKnd k).T = T := ⟨_, rfl⟩
  rw [hT] at hnil ⊢
  have d0 : (z != 0) = true := bne_iff_ne.2 h.1
  have d1 : (z != 1) = true := bne_iff_ne.2 h.2
  clear hT h
  go_enter Tryz.func51, Tryz.ntmps51
  go_wp2
  go_ret2
  exact ⟨rfl, rfl⟩
theorem btot_nil (w : World) : Calls Tryz.prog 34 #[.pointer none] w fun e w' => e = .returned (.int .u64 0) ∧ w = w' := by
  go_enter Tryz.func34, Tryz.ntmps34
  go_wp2
  go_ret
  exact ⟨rfl, rfl⟩
set_option maxRecDepth 100000 in
set_option maxHeartbeats 1000000 in
theorem btot_at (PB : List Nat) (b : Nat) (k : Bool) (pa : Nat) (part : Nat → Int) (rep : Int → Int) (s : Bool) (most : Int) (c0 c1 : Nat) (S0 S1 : List Nat) (ps0 ps1 : List (Int × Int)) (t0 t1 zero t : Int) (w : World)
    (h : BnB PB w b k pa part rep s most c0 c1 S0 S1 ps0 ps1 t0 t1 zero) (hz : 0 ≤ zero) (he : t0 + zero + t1 = t) (ht : t ≤ 9223372036854775807) :
    Calls Tryz.prog 34 #[.pointer (some ⟨b, 0, none⟩)] w fun e w' => e = .returned (.int .u64 t) ∧ Below w.heap.size w w' := by
  have s1 := h.at'
  have p0 := h.s0.sums
  have p1 := h.s1.sums
  have HT0 := Lib.hid fun W (hb : Below w.heap.size w W) => sto_total s c0 S0 most t0 ps0 W (h.s0.below hb)
  have HT1 := Lib.hid fun W (hb : Below w.heap.size w W) => sto_total s c1 S1 most t1 ps1 W (h.s1.below hb)
  have m1 := (sTotal s).1
  have m2 := (sTotal s).2
  have HW : Hid (IntKind.u64.wrap (IntKind.u64.wrap (t0 + zero) + t1) = t) := by show _ = _; simp only [IntKind.wrap_u64]; omega
  obtain ⟨sT, hsT⟩ : ∃ z, (sKnd s).T = z := ⟨_, rfl⟩
  obtain ⟨sF, hsF⟩ : ∃ z, (sKnd s).fT = z := ⟨_, rfl⟩
  rw [hsT] at s1 m1
  rw [hsF] at m1 m2 HT0 HT1
  clear h hz he ht p0 p1 hsT hsF
  go_enter Tryz.func34, Tryz.ntmps34
  go_wp2
  have hfar1 := fun x : Far w => (x.at s1).six
  refine wp_region_far (by kernel_rfl) (by kernel_rfl) ?_
  repeat (first | go_big_quiet_skip | (go_big_quiet_want; go_big_quiet_op; first | go_big_quiet_on | (apply Exists.intro; refine ⟨fun _ => ?_, ?_⟩; (focus (first | (with_reducible refine far_of (HT0.out _ (Far.below _))) | (with_reducible refine far_of (HT1.out _ (Far.below _))))); go_big_quiet_on)))
  refine wpQuiet_nil ?_
  rintro _ ⟨xq, rfl⟩
  clear hfar1
  have hb := xq.below
  rw [HW.out]
  clear HT0 HT1 s1
  go_wp2
  go_ret
  exact ⟨rfl, hb⟩
end Go.Proofs.YtondkkhagbcadaaGreat
