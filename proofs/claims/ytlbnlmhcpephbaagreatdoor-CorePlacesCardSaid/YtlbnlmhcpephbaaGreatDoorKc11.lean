/- Texts of this claim, joined, indents halved: HdrAll. -/
import Derived.Test.YtlbnlmhcpephbaaGreatDoorProg
import Derived.Test.YtlbnlmhcpephbaaGreatDoorKc10
namespace Go.Proofs.YtlbnlmhcpephbaaGreatDoor.Hh
open Go.RowKit
theorem _root_.Go.Proofs.YtlbnlmhcpephbaaGreatDoor.At.eight {w : World} {b : Nat} {T : TypeId} {v0 v1 v2 v3 v4 v5 v6 v7 : Value} (h : At w b #[v0, v1, v2, v3, v4, v5, v6, v7] T) : (w.cell? ⟨b, 0, none⟩ = some v0 ∧ w.cell? ⟨b, 1, none⟩ = some v1 ∧ w.cell? ⟨b, 2, none⟩ = some v2 ∧ w.cell? ⟨b, 3, none⟩ = some v3 ∧ w.cell? ⟨b, 4, none⟩ = some v4 ∧ w.cell? ⟨b, 5, none⟩ = some v5 ∧ w.cell? ⟨b, 6, none⟩ = some v6 ∧ w.cell? ⟨b, 7, none⟩ = some v7) ∧
  w.frozen? ⟨b, 0, none⟩ = false ∧ w.frozen? ⟨b, 1, none⟩ = false ∧ w.frozen? ⟨b, 2, none⟩ = false ∧ w.frozen? ⟨b, 3, none⟩ = false ∧ w.frozen? ⟨b, 4, none⟩ = false ∧ w.frozen? ⟨b, 5, none⟩ = false ∧ w.frozen? ⟨b, 6, none⟩ = false ∧ w.frozen? ⟨b, 7, none⟩ = false :=
 ⟨⟨h.cell rfl, h.cell rfl, h.cell rfl, h.cell rfl, h.cell rfl, h.cell rfl, h.cell rfl, h.cell rfl⟩, h.frozen 0, h.frozen 1, h.frozen 2, h.frozen 3, h.frozen 4, h.frozen 5, h.frozen 6, h.frozen 7⟩
structure HdB (w : World) (b sp b0 b1 : Nat) (S0 S1 : List Nat) (d lim : Int) (ps0 ps1 : List (Int × Int)) (zero least most : Int) : Prop where
 at' : At w b #[.int .i64 d, .int .u64 lim, .pointer (some ⟨sp, 0, none⟩), .pointer (some ⟨b0, 0, none⟩), .pointer (some ⟨b1, 0, none⟩), .int .u64 zero, .int .i64 least, .int .i64 most] 161
 span : SpanAt w sp d
 s0 : Strip w b0 S0 4096 ps0
 s1 : Strip w b1 S1 4096 ps1
 n0 : b ∉ S0
 n1 : b ∉ S1
 ns : b ≠ sp
 p0 : sp ∉ S0
 p1 : sp ∉ S1
 ap : Apart S0 S1
section
variable {w w' : World} {b sp b0 b1 : Nat} {S0 S1 T : List Nat} {d lim zero least most : Int} {ps0 ps1 : List (Int × Int)}
theorem HdB.frame (h : HdB w b sp b0 b1 S0 S1 d lim ps0 ps1 zero least most) (hf : Frame T w w') (hb : b ∉ T) (hs : sp ∉ T) (h0 : Apart S0 T) (h1 : Apart S1 T) : HdB w' b sp b0 b1 S0 S1 d lim ps0 ps1 zero least most :=
 ⟨hf.at h.at' hb, ⟨hf.at h.span.at' hs, h.span.d1, h.span.d4⟩, h.s0.frame hf h0, h.s1.frame hf h1, h.n0, h.n1, h.ns, h.p0, h.p1, h.ap⟩
theorem HdB.below (h : HdB w b sp b0 b1 S0 S1 d lim ps0 ps1 zero least most) (hb : Below w.heap.size w w') : HdB w' b sp b0 b1 S0 S1 d lim ps0 ps1 zero least most :=
 h.frame (T := []) (Frame.of_below hb) (by simp) (by simp) (fun _ _ => by simp) (fun _ _ => by simp)
end
def Hd (w : World) (b : Nat) (S : List Nat) (d lim : Int) (ps0 ps1 : List (Int × Int)) (zero least most : Int) : Prop :=
 ∃ sp b0 b1 S0 S1, S = b :: sp :: (S0 ++ S1) ∧ HdB w b sp b0 b1 S0 S1 d lim ps0 ps1 zero least most
section
variable {w w' : World} {b : Nat} {S T : List Nat} {d lim zero least most : Int} {ps0 ps1 : List (Int × Int)}
theorem Hd.frame (h : Hd w b S d lim ps0 ps1 zero least most) (hf : Frame T w w') (hn : Apart S T) : Hd w' b S d lim ps0 ps1 zero least most := by
 obtain ⟨sp, b0, b1, S0, S1, rfl, h⟩ := h
 exact ⟨sp, b0, b1, S0, S1, rfl, h.frame hf (hn b (by simp)) (hn sp (by simp)) (fun k hk => hn k (by simp [hk])) (fun k hk => hn k (by simp [hk]))⟩
theorem Hd.below (h : Hd w b S d lim ps0 ps1 zero least most) (hb : Below w.heap.size w w') : Hd w' b S d lim ps0 ps1 zero least most := h.frame (T := []) (Frame.of_below hb) (fun _ _ => by simp)
theorem Hd.lt (h : Hd w b S d lim ps0 ps1 zero least most) : ∀ k ∈ S, k < w.heap.size := by
 obtain ⟨sp, b0, b1, S0, S1, rfl, h⟩ := h
 intro k hk
 simp only [List.mem_cons, List.mem_append] at hk
 rcases hk with rfl | rfl | hk | hk
 ·exact h.at'.lt
 ·exact h.span.at'.lt
 ·exact h.s0.lt k hk
 ·exact h.s1.lt k hk
end
structure NewJ (w wr : World) (b sp : Nat) (d lim : Int) (k : Nat) : Prop where
 span : SpanAt wr sp d
 lt : sp < b
 ge : w.heap.size ≤ sp
 bl : Below w.heap.size w wr
 st : (k = 0 ∧ At wr b #[.int .i64 d, .int .u64 lim, .pointer (some ⟨sp, 0, none⟩), .pointer none, .pointer none, .int .u64 0, .int .i64 0, .int .i64 0] 161) ∨
  (k = 1 ∧ ∃ b0, At wr b #[.int .i64 d, .int .u64 lim, .pointer (some ⟨sp, 0, none⟩), .pointer (some ⟨b0, 0, none⟩), .pointer none, .int .u64 0, .int .i64 0, .int .i64 0] 161 ∧ Strip wr b0 [b0] 4096 [] ∧ b < b0) ∨
  (k = 2 ∧ ∃ b0 b1, At wr b #[.int .i64 d, .int .u64 lim, .pointer (some ⟨sp, 0, none⟩), .pointer (some ⟨b0, 0, none⟩), .pointer (some ⟨b1, 0, none⟩), .int .u64 0, .int .i64 0, .int .i64 0] 161 ∧ Strip wr b0 [b0] 4096 [] ∧ Strip wr b1 [b1] 4096 [] ∧ b < b0 ∧ b0 < b1)
theorem NewJ.below {w wr w' : World} {b sp : Nat} {d lim : Int} {k : Nat} (h : NewJ w wr b sp d lim k) (hb : Below wr.heap.size wr w') : NewJ w w' b sp d lim k := by
 refine ⟨h.span.below hb, h.lt, h.ge, keep1 h.bl hb, ?_⟩
 rcases h.st with ⟨h1, h2⟩ | ⟨h1, b0, h2, h3, h4⟩ | ⟨h1, b0, b1, h2, h3, h4, h5⟩
 ·exact .inl ⟨h1, h2.below hb⟩
 ·exact .inr (.inl ⟨h1, b0, h2.below hb, h3.below hb, h4⟩)
 ·exact .inr (.inr ⟨h1, b0, b1, h2.below hb, h3.below hb, h4.below hb, h5⟩)
set_option maxHeartbeats 2000000 in
theorem hnew_any (d lim : Int) (w : World) (hT : TensAt w) (h1 : 1 ≤ d) (h4 : d ≤ 4) (hl : 0 ≤ lim) (hl' : lim ≤ 9223372036854775808) :
  Calls Tryz.prog 43 #[.agg #[.int .i64 d, .int .u64 lim]] w fun e w' => (∃ b S, e = .returned (.tuple #[.pointer (some ⟨b, 0, none⟩), .int .i64 0]) ∧ Within S w.heap.size w'.heap.size ∧ Hd w' b S d lim [] [] 0 0 0) ∧ Below w.heap.size w w' := by
 have HN := Lib.hid fun W (hb : Below w.heap.size w W) => spnew_any d W (hT.below hb) h1 h4
 have hd1 : decide ((9223372036854775808 : Int) < lim) = false := decide_eq_false (by omega)
 clear hT h1 h4 hl hl'
 go_enter Tryz.func43, Tryz.ntmps43
 have hb0 : Below w.heap.size w (w.alloc (.cells #[.int .i64 d, .int .u64 lim] 110)) := (Below.refl _ _).alloc (Nat.le_refl _) _
 have r2 := At.new' w #[.int .i64 d, .int .u64 lim] 110 rfl
 go_wp2_with fail
 obtain ⟨rb, hrb⟩ : ∃ r, w.heap.size = r := ⟨_, rfl⟩
 obtain ⟨W1, hW1⟩ : ∃ W1, w.alloc (.cells #[.int .i64 d, .int .u64 lim] 110) = W1 := ⟨_, rfl⟩
 have HRB := Lib.hid hrb
 rw [hW1] at hb0 r2 ⊢
 rw [hrb] at r2
 try rw [hrb]
 clear hW1 hrb
 refine (HN.out W1 hb0).mono ?_
 rintro e w2 ⟨⟨sp, rfl, hspe, hsp⟩, hb⟩
 have HB2 := Lib.hid (keep1 hb0 hb)
 have HSP := Lib.hid hsp
 have HSI : Hid (w.heap.size ≤ sp) := by have := hb0.size; show _ ≤ _; omega
 replace r2 := r2.below hb
 have f2 := r2.two
 have l2 := r2.lt
 clear hb0 hb hspe hsp HN
 have aS := At.new' w2 #[.int .i64 d, .int .u64 lim, .pointer (some ⟨sp, 0, none⟩), .pointer none, .pointer none, .int .u64 0, .int .i64 0, .int .i64 0] 161 rfl
 have hba : Below w2.heap.size w2 (w2.alloc (.cells #[.int .i64 d, .int .u64 lim, .pointer (some ⟨sp, 0, none⟩), .pointer none, .pointer none, .int .u64 0, .int .i64 0, .int .i64 0] 161)) := (Below.refl _ _).alloc (Nat.le_refl _) _
 go_wp2
 obtain ⟨b, hbe⟩ : ∃ b, w2.heap.size = b := ⟨_, rfl⟩
 have HJ : Hid (NewJ w (w2.alloc (.cells #[.int .i64 d, .int .u64 lim, .pointer (some ⟨sp, 0, none⟩), .pointer none, .pointer none, .int .u64 0, .int .i64 0, .int .i64 0] 161)) b sp d lim 0) := by
  have h1 := HSP.out.at'.lt
  refine ⟨HSP.out.below hba, by omega, HSI.out, keep1 HB2.out hba, .inl ⟨rfl, ?_⟩⟩
  rw [← hbe]; exact aS
 simp only [hbe]
 clear hbe aS hba HB2 HSP HSI f2 l2 r2
 generalize w2.alloc (.cells #[.int .i64 d, .int .u64 lim, .pointer (some ⟨sp, 0, none⟩), .pointer none, .pointer none, .int .u64 0, .int .i64 0, .int .i64 0] 161) = W3 at HJ ⊢
 go_loopw [7, 25] (fun _ i wr => ∃ k : Nat, k ≤ 2 ∧ i = .int .i64 k ∧ Hid (NewJ w wr b sp d lim k)) (fun _ i _ => 2 - (intOf i).toNat)
 case atStart => exact ⟨0, by omega, rfl, HJ⟩
 case round =>
  obtain ⟨k, hk, rfl, H⟩ := hrel
  clear HJ
  by_cases hlt : k < 2
  ·obtain ⟨p0, p1, s3⟩ : ∃ p0 p1, At wr b #[.int .i64 d, .int .u64 lim, .pointer (some ⟨sp, 0, none⟩), p0, p1, .int .u64 0, .int .i64 0, .int .i64 0] 161 := by
    rcases H.out.st with ⟨_, h⟩ | ⟨_, b0, h, _⟩ | ⟨_, b0, b1, h, _⟩
    ·exact ⟨_, _, h⟩
    ·exact ⟨_, _, h⟩
    ·exact ⟨_, _, h⟩
   have s4 := s3.drew
   have H4 : Hid (NewJ w wr.drew b sp d lim k) := H.out.below (Below.refl _ _).drew
   clear s3
   go_wp2
   obtain ⟨W4, hW4⟩ : ∃ W, wr.drew = W := ⟨_, rfl⟩
   rw [hW4] at s4 H4
   have k0 : (0 : Int) ≤ k := by omega
   have k1 : (k : Int) < 2 := by omega
   haveI : Nonempty (Held fun _ => True) := ⟨⟨W4, trivial⟩⟩
   refine wp_region_noPanic ?_
   refine wp_region_held_drew (S := HeldS fun _ => True) (by kernel_rfl) (HeldS.mk' trivial) (fun hHeld => ?_)
   rw [hW4] at hHeld ⊢
   clear hW4 H
   refine wpAnyH_run0 [true, true, false, false, false, false, true, true] 6 (by kernel_rfl) (by kernel_rfl) (fun _ _ _ _ h => h) (by kernel_rfl) hHeld ?_
   simp only [runOps_true, runOps_false, runOps_nil]
   repeat (first | go_big_quiet_skip | (go_big_quiet_want; go_big_quiet_op; go_big_quiet_on))
   refine wpQuiet_nil ?_
   refine wpAnyH_ready (rs := [2]) (by kernel_rfl) (by simp) ?_
   refine AllReadyH.cons rfl (fun K hK => ?_) AllReadyH.nil
   go_simp
   go_wp2_with (go_at_call 59; refine (snew_any 4096 W4 (by omega) (by omega)).mono ?_; rintro e w5 ⟨⟨c, rfl, hc, hS⟩, hb⟩; have hcl := Nat.le_of_eq hc.symm; clear hc)
   refine hK.out _ _ ?_ (fun hHeld => ?_)
   clear hK K
   ·exact HeldS.mk' trivial
   have H5 := Lib.hid (H4.out.below hb)
   have HCS : Hid (Strip w5 c [c] 4096 [] ∧ W4.heap.size ≤ c ∧ b < c) := ⟨hS, hcl, by have := s4.lt; omega⟩
   replace s4 := s4.below hb
   have H6 : Hid (k = 0 ∨ ∃ c0, w5.cell? ⟨b, 3, none⟩ = some (.pointer (some ⟨c0, 0, none⟩)) ∧ c0 < W4.heap.size) := by
    rcases H4.out.st with ⟨h1, h2⟩ | ⟨h1, b0, h2, h3, h4⟩ | ⟨h1, b0, b1, h2, h3, h4, h5⟩
    ·exact .inl h1
    ·exact .inr ⟨b0, (h2.below hb).cell rfl, h3.lt b0 (by simp)⟩
    ·omega
   clear hcl hS hb H4
   refine wpAnyH_run0 [false, false, false, true, true, true, false, false, true] 1 (by kernel_rfl) (by kernel_rfl) (fun _ _ _ _ h => h) (by kernel_rfl) hHeld ?_
   simp only [runOps_true, runOps_false, runOps_nil]
   repeat (first | go_big_quiet_skip | (go_big_quiet_want; go_big_quiet_op; go_big_quiet_on))
   refine wpQuiet_nil ?_
   have HN : Hid (NewJ w (w5.setCell ⟨b, 3 + k, none⟩ (.pointer (some ⟨c, 0, none⟩))) b sp d lim (k + 1)) := by
    have hne : sp ≠ b := by have := H5.out.lt; omega
    refine ⟨⟨H5.out.span.at'.set_other (p := ⟨b, 3 + k, none⟩) hne _, H5.out.span.d1, H5.out.span.d4⟩, H5.out.lt, H5.out.ge, H5.out.bl.setCell (p := ⟨b, 3 + k, none⟩) (by show w.heap.size ≤ b; have := H5.out.lt; have := H5.out.ge; omega) _, ?_⟩
    rcases H5.out.st with ⟨h1, h2⟩ | ⟨h1, b0, h2, h3, h4⟩ | ⟨h1, b0, b1, h2, h3, h4, h5⟩
    ·subst h1
     exact .inr (.inl ⟨rfl, c, h2.set_any 3 _ rfl, HCS.out.1.frame (Frame.set [b] _ b 3 _ (by simp)) (fun j hj hn => by simp at hj hn; have := HCS.out.2.2; omega), HCS.out.2.2⟩)
    ·subst h1
     have hb0 := h3.lt b0 (by simp)
     refine .inr (.inr ⟨rfl, b0, c, h2.set_any 4 _ rfl, h3.frame (Frame.set [b] _ b 4 _ (by simp)) (fun j hj hn => by simp at hj hn; omega), HCS.out.1.frame (Frame.set [b] _ b 4 _ (by simp)) (fun j hj hn => by simp at hj hn; have := HCS.out.2.2; omega), h4, ?_⟩)
     rcases H6.out with hh | ⟨c0, hh, hlt0⟩
     ·omega
     ·have e := hh.symm.trans (h2.cell (i := 3) rfl)
      simp at e
      subst e
      have := HCS.out.2.1
      omega
    ·omega
   have l4 := s4.lt
   obtain ⟨pk, hpk⟩ : ∃ pk, w5.cell? ⟨b, 3 + k, none⟩ = some pk := by
    rcases (by omega : k = 0 ∨ k = 1) with rfl | rfl
    ·exact ⟨_, s4.cell (i := 3) rfl⟩
    ·exact ⟨_, s4.cell (i := 4) rfl⟩
   have fpk := s4.frozen (3 + k)
   refine wpAnyH_ready (rs := [9]) (by kernel_rfl) (by simp) ?_
   refine AllReadyH.cons rfl (fun K hK => ?_) (AllReadyH.nil)
   go_simp
   go_wp2
   refine hK.out _ _ (HeldS.mk' trivial) (fun hHeld => ?_)
   clear hK K
   refine wpAnyH_done (by kernel_rfl) ?_ _
   refine NoPanic.normal ?_
   clear hHeld hpk fpk l4 s4
   go_wp2
   go_roundw
   case rel => exact ⟨k + 1, by omega, by simp, HN⟩
   case measure => simp [intOf]; omega
  ·obtain rfl : k = 2 := by omega
   have HE : Hid ((∃ b' S, (Ending.returned (.tuple #[.pointer (some ⟨b, 0, none⟩), .int .i64 0])) = .returned (.tuple #[.pointer (some ⟨b', 0, none⟩), .int .i64 0]) ∧ Within S w.heap.size wr.heap.size ∧ Hd wr b' S d lim [] [] 0 0 0) ∧ Below w.heap.size w wr) := by
    rcases H.out.st with ⟨h1, _⟩ | ⟨h1, _⟩ | ⟨_, b0, b1, h2, h3, h4, h5, h6⟩
    ·omega
    ·omega
    ·have g1 := H.out.lt
     have g2 := H.out.ge
     have g3 := h4.lt b1 (by simp)
     have hH : Hd wr b [b, sp, b0, b1] d lim [] [] 0 0 0 := ⟨sp, b0, b1, [b0], [b1], rfl, h2, H.out.span, h3, h4, by simp; omega, by simp; omega, by omega, by simp; omega, by simp; omega, fun j hj hn => by simp at hj hn; omega⟩
     refine ⟨⟨b, _, rfl, fun j hj => ⟨?_, hH.lt j hj⟩, hH⟩, H.out.bl⟩
     simp at hj
     omega
   clear H
   go_wp2
   go_ret2
   exact HE.out
end Go.Proofs.YtlbnlmhcpephbaaGreatDoor.Hh
namespace Go.Proofs.YtlbnlmhcpephbaaGreatDoor.Hh
open Go.RowKit
set_option maxRecDepth 100000 in
set_option maxHeartbeats 1000000 in
theorem htotal_at (b sp b0 b1 : Nat) (S0 S1 : List Nat) (d lim : Int) (ps0 ps1 : List (Int × Int)) (zero least most : Int) (w : World) (h : HdB w b sp b0 b1 S0 S1 d lim ps0 ps1 zero least most) (hz : 0 ≤ zero) (ht : sumP ps0 + zero + sumP ps1 ≤ 9223372036854775807) :
  Calls Tryz.prog 107 #[.pointer (some ⟨b, 0, none⟩)] w fun e w' => e = .returned (.int .u64 (sumP ps0 + zero + sumP ps1)) ∧ Below w.heap.size w w' := by
 have s1 := h.at'
 have p0 := sumP_nonneg (ps := ps0) h.s0.gd.pos
 have p1 := sumP_nonneg (ps := ps1) h.s1.gd.pos
 have HT0 := Lib.hid fun W (hb : Below w.heap.size w W) => (stotal_any b0 S0 4096 ps0 W (h.s0.below hb)).mono fun e w' (h : e = .returned (.int .u64 (sumP ps0)) ∧ W = w') => (⟨h.1, by rw [← h.2]; exact Below.refl _ _⟩ : e = .returned (.int .u64 (sumP ps0)) ∧ Below W.heap.size W w')
 have HT1 := Lib.hid fun W (hb : Below w.heap.size w W) => (stotal_any b1 S1 4096 ps1 W (h.s1.below hb)).mono fun e w' (h : e = .returned (.int .u64 (sumP ps1)) ∧ W = w') => (⟨h.1, by rw [← h.2]; exact Below.refl _ _⟩ : e = .returned (.int .u64 (sumP ps1)) ∧ Below W.heap.size W w')
 clear h
 obtain ⟨u, hu⟩ : ∃ u, sumP ps0 = u := ⟨_, rfl⟩
 obtain ⟨v, hv⟩ : ∃ v, sumP ps1 = v := ⟨_, rfl⟩
 rw [hu] at HT0 p0 ht
 rw [hv] at HT1 p1 ht
 rw [hu, hv]
 have HW : Hid (IntKind.u64.wrap (IntKind.u64.wrap (u + zero) + v) = u + zero + v) := by show _ = _; simp only [IntKind.wrap_u64]; omega
 have HB := Lib.hid ((Below.refl w.heap.size w).drew)
 clear hu hv p0 p1 ht hz
 go_enter Tryz.func107, Tryz.ntmps107
 go_wp2
 have hfar1 := fun x : Far w => (x.at s1).eight
 refine wp_region_far (by kernel_rfl) (by kernel_rfl) ?_
 repeat (first | go_big_quiet_skip | (go_big_quiet_want; go_big_quiet_op; first | go_big_quiet_on | (apply Exists.intro; refine ⟨fun _ => ?_, ?_⟩; (focus (first | (with_reducible refine far_of (HT0.out _ (Far.below _))) | (with_reducible refine far_of (HT1.out _ (Far.below _))))); go_big_quiet_on)))
 refine wpQuiet_nil ?_
 rintro _ ⟨xq, rfl⟩
 clear hfar1
 have hb := xq.below
 rw [HW.out]
 clear HT0 HT1
 go_wp2
 go_ret
 exact ⟨rfl, hb⟩
set_option maxRecDepth 100000 in
set_option maxHeartbeats 1000000 in
theorem hside_any (b sp b0 b1 : Nat) (S0 S1 : List Nat) (d lim : Int) (ps0 ps1 : List (Int × Int)) (zero least most x : Int) (w : World) (h : HdB w b sp b0 b1 S0 S1 d lim ps0 ps1 zero least most) (hx : x ≠ 0) (hx1 : -9223372036854775808 ≤ x) (hx2 : x ≤ 9223372036854775807) :
  Calls Tryz.prog 216 #[.pointer (some ⟨b, 0, none⟩), .int .i64 x] w fun e w' => e = .returned (.tuple #[.pointer (some ⟨if x < 0 then b0 else b1, 0, none⟩), .int .i64 (partD d x.natAbs), .bool true]) ∧ Below w.heap.size w w' := by
 have s1 := h.at'
 have HSG := Lib.hid fun W => sgof_any x W hx1 hx2
 have HIX := Lib.hid (spindex_any sp x.natAbs d w h.span (by omega) (by omega))
 have HP : Hid (((idxN (gOf d) x.natAbs : Nat) : Int) = partD d x.natAbs) := rfl
 have f1 := s1.eight
 have l1 := s1.lt
 clear h hx hx1 hx2
 by_cases hb : x < 0
 ·rw [if_pos hb]
  go_enter Tryz.func216, Tryz.ntmps216
  go_wp2_with fail
  refine (HSG.out w).mono ?_
  rintro e w1 ⟨rfl, rfl⟩
  rw [decide_eq_true hb]
  clear hb HSG
  go_wp2_with fail
  refine HIX.out.mono ?_
  rintro e w2 ⟨rfl, hb2⟩
  rw [HP.out]
  replace s1 := s1.below hb2
  have f2 := s1.eight
  have l2 := s1.lt
  clear f1 l1 HIX
  go_wp2
  go_ret3
  exact ⟨rfl, (by repeat (first | with_reducible assumption | with_reducible exact Below.refl _ _ | with_reducible refine Below.drew ?_ | with_reducible refine Below.drewN ?_ _ | with_reducible refine Below.setCell ?_ (by first | omega | (simp; done) | (simp; omega)) _ | with_reducible refine Below.alloc ?_ (by first | omega | (simp; done) | (simp; omega) | (simp [World.setCell]; omega)) _))⟩
 ·rw [if_neg hb]
  go_enter Tryz.func216, Tryz.ntmps216
  go_wp2_with fail
  refine (HSG.out w).mono ?_
  rintro e w1 ⟨rfl, rfl⟩
  rw [decide_eq_false (by omega : ¬ x < 0)]
  clear hb HSG
  go_wp2_with fail
  refine HIX.out.mono ?_
  rintro e w2 ⟨rfl, hb2⟩
  rw [HP.out]
  replace s1 := s1.below hb2
  have f2 := s1.eight
  have l2 := s1.lt
  clear f1 l1 HIX
  go_wp2
  go_ret3
  exact ⟨rfl, (by repeat (first | with_reducible assumption | with_reducible exact Below.refl _ _ | with_reducible refine Below.drew ?_ | with_reducible refine Below.drewN ?_ _ | with_reducible refine Below.setCell ?_ (by first | omega | (simp; done) | (simp; omega)) _ | with_reducible refine Below.alloc ?_ (by first | omega | (simp; done) | (simp; omega) | (simp [World.setCell]; omega)) _))⟩
set_option maxRecDepth 100000 in
set_option maxHeartbeats 1000000 in
theorem hside_zero (b sp b0 b1 : Nat) (S0 S1 : List Nat) (d lim : Int) (ps0 ps1 : List (Int × Int)) (zero least most : Int) (w : World) (h : HdB w b sp b0 b1 S0 S1 d lim ps0 ps1 zero least most) :
  Calls Tryz.prog 216 #[.pointer (some ⟨b, 0, none⟩), .int .i64 0] w fun e w' => e = .returned (.tuple #[.pointer (some ⟨b1, 0, none⟩), .int .i64 0, .bool false]) ∧ Below w.heap.size w w' := by
 have s1 := h.at'
 have HSG := Lib.hid fun W => sgof_any 0 W (by omega) (by omega)
 have HIX := Lib.hid (spindex_zero sp w)
 have f1 := s1.eight
 have l1 := s1.lt
 clear h
 go_enter Tryz.func216, Tryz.ntmps216
 go_wp2_with fail
 refine (HSG.out w).mono ?_
 rintro e w1 ⟨rfl, rfl⟩
 rw [show ((Int.natAbs 0 : Nat) : Int) = 0 from rfl, show decide ((0 : Int) < 0) = false from rfl]
 clear HSG
 go_wp2_with fail
 refine HIX.out.mono ?_
 rintro e w2 ⟨rfl, hb2⟩
 replace s1 := s1.below hb2
 have f2 := s1.eight
 have l2 := s1.lt
 clear f1 l1 HIX
 go_wp2
 go_ret3
 exact ⟨rfl, (by repeat (first | with_reducible assumption | with_reducible exact Below.refl _ _ | with_reducible refine Below.drew ?_ | with_reducible refine Below.drewN ?_ _ | with_reducible refine Below.setCell ?_ (by first | omega | (simp; done) | (simp; omega)) _ | with_reducible refine Below.alloc ?_ (by first | omega | (simp; done) | (simp; omega) | (simp [World.setCell]; omega)) _))⟩
theorem HdB.set {w : World} {b sp b0 b1 : Nat} {S0 S1 : List Nat} {d lim zero least most zero' least' most' : Int} {ps0 ps1 : List (Int × Int)} (h : HdB w b sp b0 b1 S0 S1 d lim ps0 ps1 zero least most) (i : Nat) (v : Value)
  (h1 : At (w.setCell ⟨b, i, none⟩ v) b #[.int .i64 d, .int .u64 lim, .pointer (some ⟨sp, 0, none⟩), .pointer (some ⟨b0, 0, none⟩), .pointer (some ⟨b1, 0, none⟩), .int .u64 zero', .int .i64 least', .int .i64 most'] 161) :
  HdB (w.setCell ⟨b, i, none⟩ v) b sp b0 b1 S0 S1 d lim ps0 ps1 zero' least' most' := by
 have hF := Frame.set [b] w b i v (by simp)
 refine ⟨h1, ⟨hF.at h.span.at' (fun e => h.ns (by simp at e; exact e.symm)), h.span.d1, h.span.d4⟩, h.s0.frame hF (fun k hk hn => h.n0 (by simp at hn; rwa [← hn])), h.s1.frame hF (fun k hk hn => h.n1 (by simp at hn; rwa [← hn])), h.n0, h.n1, h.ns, h.p0, h.p1, h.ap⟩
def MostW (b : Nat) (most : Int) (W : World) : Prop := W.cell? ⟨b, 7, none⟩ = some (.int .i64 most)
theorem MostW.at {b : Nat} {most : Int} {W : World} (h : MostW b most W) : W.cell? ⟨b, 7, none⟩ = some (.int .i64 most) := h
set_option maxRecDepth 100000 in
set_option maxHeartbeats 2000000 in
theorem hends_none (b sp b0 b1 : Nat) (S0 S1 : List Nat) (d lim : Int) (ps0 ps1 : List (Int × Int)) (zero least most lo hi : Int) (w : World) (h : HdB w b sp b0 b1 S0 S1 d lim ps0 ps1 zero least most) (hz : 0 ≤ zero) (h0 : sumP ps0 + zero + sumP ps1 = 0) :
  Calls Tryz.prog 218 #[.pointer (some ⟨b, 0, none⟩), .int .i64 lo, .int .i64 hi] w fun e w' => e = .returned (.tuple #[]) ∧ HdB w' b sp b0 b1 S0 S1 d lim ps0 ps1 zero lo hi ∧ Frame [b] w w' := by
 have H := Lib.hid h
 have HT := Lib.hid (htotal_at _ _ _ _ _ _ _ _ _ _ _ _ _ w h hz (by omega))
 rw [h0] at HT
 clear h hz h0
 go_enter Tryz.func218, Tryz.ntmps218
 go_wp2_with fail
 refine HT.out.mono ?_
 rintro e w1 ⟨rfl, hb⟩
 replace H := Lib.hid (H.out.below hb)
 have hF := Lib.hid (Frame.of_below (S := [b]) hb)
 have s1 := H.out.at'
 have f1 := s1.eight
 have l1 := s1.lt
 clear HT hb
 have H2 := Lib.hid (H.out.set (zero' := zero) (least' := lo) (most' := most) 6 (.int .i64 lo) (s1.set_any 6 _ rfl))
 have H3 := Lib.hid (H2.out.set (zero' := zero) (least' := lo) (most' := hi) 7 (.int .i64 hi) (H2.out.at'.set_any 7 _ rfl))
 have HF3 := Lib.hid ((hF.out.setc (b := b) (.inl (by simp)) 6 (.int .i64 lo)).setc (b := b) (.inl (by simp)) 7 (.int .i64 hi))
 go_wp2
 exact bodyPost_ret (results_none rfl _ _ _) rfl ⟨rfl, H3.out, HF3.out⟩
set_option maxRecDepth 100000 in
set_option maxHeartbeats 2000000 in
theorem hends_more (b sp b0 b1 : Nat) (S0 S1 : List Nat) (d lim : Int) (ps0 ps1 : List (Int × Int)) (zero least most lo hi : Int) (w : World) (h : HdB w b sp b0 b1 S0 S1 d lim ps0 ps1 zero least most) (hz : 0 ≤ zero) (ht : sumP ps0 + zero + sumP ps1 ≤ 9223372036854775807) (h0 : sumP ps0 + zero + sumP ps1 ≠ 0) :
  Calls Tryz.prog 218 #[.pointer (some ⟨b, 0, none⟩), .int .i64 lo, .int .i64 hi] w fun e w' => e = .returned (.tuple #[]) ∧ HdB w' b sp b0 b1 S0 S1 d lim ps0 ps1 zero (min least lo) (max most hi) ∧ Frame [b] w w' := by
 have H := Lib.hid h
 have HT := Lib.hid (htotal_at _ _ _ _ _ _ _ _ _ _ _ _ _ w h hz ht)
 have hn : (sumP ps0 + zero + sumP ps1 == 0) = false := beq_eq_false_iff_ne.2 h0
 obtain ⟨t, htt⟩ : ∃ t, sumP ps0 + zero + sumP ps1 = t := ⟨_, rfl⟩
 rw [htt] at HT hn
 clear h hz ht h0 htt
 go_enter Tryz.func218, Tryz.ntmps218
 go_wp2_with fail
 refine HT.out.mono ?_
 rintro e w1 ⟨rfl, hb⟩
 replace H := Lib.hid (H.out.below hb)
 have hF := Lib.hid (Frame.of_below (S := [b]) hb)
 clear HT hb
 go_upto_region 2 with fail
 obtain ⟨W, hW⟩ : ∃ W, w1.drew = W := ⟨_, rfl⟩
 have H1 : Hid (HdB W b sp b0 b1 S0 S1 d lim ps0 ps1 zero least most) := by show HdB _ _ _ _ _ _ _ _ _ _ _ _ _ _; rw [← hW]; exact H.out.below (Below.refl _ _).drew
 have hF1 : Hid (Frame [b] w W) := by show Frame _ _ _; rw [← hW]; exact hF.out.drew
 refine wp_region_noPanic ?_
 refine wp_region_until (S := HeldS (MostW b most)) 19 (by kernel_rfl) ?_
 rw [hW]
 clear hW H hF
 have s1 := H1.out.at'
 have H2 := Lib.hid (H1.out.set (zero' := zero) (least' := min least lo) (most' := most) 6 (.int .i64 (min least lo)) (s1.set_any 6 _ rfl))
 have H3 := Lib.hid (H2.out.set (zero' := zero) (least' := min least lo) (most' := max most hi) 7 (.int .i64 (max most hi)) (H2.out.at'.set_any 7 _ rfl))
 have HF3 := Lib.hid ((hF1.out.setc (b := b) (.inl (by simp)) 6 (.int .i64 (min least lo))).setc (b := b) (.inl (by simp)) 7 (.int .i64 (max most hi)))
 have hm1 : MostW b most W := s1.cell rfl
 have hm2 : MostW b most (W.setCell ⟨b, 6, none⟩ (.int .i64 (min least lo))) := H2.out.at'.cell rfl
 have hHeld : HeldS (MostW b most) W := HeldS.mk' hm1
 have hne : Nonempty (Held (MostW b most)) := ⟨⟨W, hm1⟩⟩
 have hfar := fun x : Held (MostW b most) => x.held.at
 have hneF : Nonempty (Held fun _ => True) := ⟨⟨W, trivial⟩⟩
 have f1 := s1.eight
 have l1 := s1.lt
 have f2 := H2.out.at'.eight
 have l2 := H2.out.at'.lt
 clear H1 hF1 H2 s1
 refine wpAnyU_run0F [true, true, true, true, true, false, true, false, true, true, true, false, true] 10 (by kernel_rfl) (by kernel_rfl) (fun _ _ _ _ h => h) (by kernel_rfl) hHeld ?_
 simp only [runOps_true, runOps_false, runOps_nil]
 repeat (first | go_big_quiet_skip | (go_big_quiet_want; go_big_quiet_op; go_big_quiet_on))
 refine wpQuiet_nil ?_
 refine wpAnyU_run0 [false, false, false, false, false, false, false, false, false, false, false, true] 9 (by kernel_rfl) (by kernel_rfl) (fun _ _ _ _ h => h) (by kernel_rfl) hHeld ?_
 simp only [runOps_true, runOps_false, runOps_nil]
 repeat (first | go_big_quiet_skip | (go_big_quiet_want; go_big_quiet_op; go_big_quiet_on))
 refine wpQuiet_nil ?_
 clear hfar hne
 refine wpAnyU_ready (rs := [5, 13]) (by kernel_rfl) (by simp) ?_
 refine AllReadyU.cons rfl (fun K hK => ?_) (AllReadyU.cons rfl (fun K hK => ?_) (AllReadyU.nil))
 ·go_simp
  go_wp2
  refine hK.out _ _ (fun _ => HeldS.mk' hm1) ?_
  clear hK K
  refine wpAnyU_ready (rs := [7, 13]) (by kernel_rfl) (by simp) ?_
  refine AllReadyU.cons rfl (fun K hK => ?_) (AllReadyU.cons rfl (fun K hK => ?_) (AllReadyU.nil))
  ·go_simp
   go_wp2
   refine hK.out _ _ (fun _ => HeldS.mk' hm1) ?_
   clear hK K
   refine wpAnyU_run0F [false, false, false, false, false, false, false, false, false, false, false, false, false, false, true, true] 5 (by kernel_rfl) (by kernel_rfl) (fun _ _ _ _ h => h) (by kernel_rfl) hHeld ?_
   simp only [runOps_true, runOps_false, runOps_nil]
   repeat (first | go_big_quiet_skip | (go_big_quiet_want; go_big_quiet_op; go_big_quiet_on))
   refine wpQuiet_nil ?_
   refine wpAnyU_ready (rs := [13, 16]) (by kernel_rfl) (by simp) ?_
   refine AllReadyU.cons rfl (fun K hK => ?_) (AllReadyU.cons rfl (fun K hK => ?_) (AllReadyU.nil))
   ·go_simp
    go_wp2
    refine hK.out _ _ (fun _ => HeldS.mk' hm1) ?_
    clear hK K
    refine wpAnyU_ready (rs := [16]) (by kernel_rfl) (by simp) ?_
    refine AllReadyU.cons rfl (fun K hK => ?_) (AllReadyU.nil)
    go_simp
    go_wp2
    refine hK.out _ _ (fun _ => HeldS.mk' hm2) ?_
    clear hK K
    replace hHeld : HeldS (MostW b most) (W.setCell ⟨b, 6, none⟩ (.int .i64 (min least lo))) := HeldS.mk' hm2
    clear f1 l1
    refine wpAnyU_run0F [false, false, false, false, false, false, false, false, false, false, false, false, false, false, false, false, false, true, true] 1 (by kernel_rfl) (by kernel_rfl) (fun _ _ _ _ h => h) (by kernel_rfl) hHeld ?_
    simp only [runOps_true, runOps_false, runOps_nil]
    repeat (first | go_big_quiet_skip | (go_big_quiet_want; go_big_quiet_op; go_big_quiet_on))
    refine wpQuiet_nil ?_
    refine wpAnyU_ready (rs := [19]) (by kernel_rfl) (by simp) ?_
    refine AllReadyU.cons rfl (fun K hK => ?_) (AllReadyU.nil)
    go_simp
    go_wp2
    refine hK.out _ _ (fun h => late_no h (by kernel_rfl)) ?_
    clear hK K
    refine wpAnyU_done (by kernel_rfl) ?_ _
    refine NoPanic.normal ?_
    clear hHeld f2 l2
    go_wp2
    exact bodyPost_end (results_none rfl _ _ _) rfl ⟨rfl, H3.out, HF3.out⟩
   ·go_simp
    go_wp2
    refine hK.out _ _ (fun _ => HeldS.mk' hm2) ?_
    clear hK K
    refine wpAnyU_ready (rs := [13]) (by kernel_rfl) (by simp) ?_
    refine AllReadyU.cons rfl (fun K hK => ?_) (AllReadyU.nil)
    go_simp
    go_wp2
    refine hK.out _ _ (fun _ => HeldS.mk' hm2) ?_
    clear hK K
    replace hHeld : HeldS (MostW b most) (W.setCell ⟨b, 6, none⟩ (.int .i64 (min least lo))) := HeldS.mk' hm2
    clear f1 l1
    refine wpAnyU_run0F [false, false, false, false, false, false, false, false, false, false, false, false, false, false, false, false, false, true, true] 1 (by kernel_rfl) (by kernel_rfl) (fun _ _ _ _ h => h) (by kernel_rfl) hHeld ?_
    simp only [runOps_true, runOps_false, runOps_nil]
    repeat (first | go_big_quiet_skip | (go_big_quiet_want; go_big_quiet_op; go_big_quiet_on))
    refine wpQuiet_nil ?_
    refine wpAnyU_ready (rs := [19]) (by kernel_rfl) (by simp) ?_
    refine AllReadyU.cons rfl (fun K hK => ?_) (AllReadyU.nil)
    go_simp
    go_wp2
    refine hK.out _ _ (fun h => late_no h (by kernel_rfl)) ?_
    clear hK K
    refine wpAnyU_done (by kernel_rfl) ?_ _
    refine NoPanic.normal ?_
    clear hHeld f2 l2
    go_wp2
    exact bodyPost_end (results_none rfl _ _ _) rfl ⟨rfl, H3.out, HF3.out⟩
  ·go_simp
   go_wp2
   refine hK.out _ _ (fun _ => HeldS.mk' hm1) ?_
   clear hK K
   refine wpAnyU_ready (rs := [7]) (by kernel_rfl) (by simp) ?_
   refine AllReadyU.cons rfl (fun K hK => ?_) (AllReadyU.nil)
   go_simp
   go_wp2
   refine hK.out _ _ (fun _ => HeldS.mk' hm1) ?_
   clear hK K
   refine wpAnyU_run0F [false, false, false, false, false, false, false, false, false, false, false, false, false, false, true, true] 4 (by kernel_rfl) (by kernel_rfl) (fun _ _ _ _ h => h) (by kernel_rfl) hHeld ?_
   simp only [runOps_true, runOps_false, runOps_nil]
   repeat (first | go_big_quiet_skip | (go_big_quiet_want; go_big_quiet_op; go_big_quiet_on))
   refine wpQuiet_nil ?_
   refine wpAnyU_ready (rs := [16]) (by kernel_rfl) (by simp) ?_
   refine AllReadyU.cons rfl (fun K hK => ?_) (AllReadyU.nil)
   go_simp
   go_wp2
   refine hK.out _ _ (fun _ => HeldS.mk' hm2) ?_
   clear hK K
   replace hHeld : HeldS (MostW b most) (W.setCell ⟨b, 6, none⟩ (.int .i64 (min least lo))) := HeldS.mk' hm2
   clear f1 l1
   refine wpAnyU_run0F [false, false, false, false, false, false, false, false, false, false, false, false, false, false, false, false, false, true, true] 1 (by kernel_rfl) (by kernel_rfl) (fun _ _ _ _ h => h) (by kernel_rfl) hHeld ?_
   simp only [runOps_true, runOps_false, runOps_nil]
   repeat (first | go_big_quiet_skip | (go_big_quiet_want; go_big_quiet_op; go_big_quiet_on))
   refine wpQuiet_nil ?_
   refine wpAnyU_ready (rs := [19]) (by kernel_rfl) (by simp) ?_
   refine AllReadyU.cons rfl (fun K hK => ?_) (AllReadyU.nil)
   go_simp
   go_wp2
   refine hK.out _ _ (fun h => late_no h (by kernel_rfl)) ?_
   clear hK K
   refine wpAnyU_done (by kernel_rfl) ?_ _
   refine NoPanic.normal ?_
   clear hHeld f2 l2
   go_wp2
   exact bodyPost_end (results_none rfl _ _ _) rfl ⟨rfl, H3.out, HF3.out⟩
 ·go_simp
  go_wp2
  refine hK.out _ _ (fun _ => HeldS.mk' hm1) ?_
  clear hK K
  refine wpAnyU_ready (rs := [5]) (by kernel_rfl) (by simp) ?_
  refine AllReadyU.cons rfl (fun K hK => ?_) (AllReadyU.nil)
  go_simp
  go_wp2
  refine hK.out _ _ (fun _ => HeldS.mk' hm1) ?_
  clear hK K
  refine wpAnyU_ready (rs := [7]) (by kernel_rfl) (by simp) ?_
  refine AllReadyU.cons rfl (fun K hK => ?_) (AllReadyU.nil)
  go_simp
  go_wp2
  refine hK.out _ _ (fun _ => HeldS.mk' hm1) ?_
  clear hK K
  refine wpAnyU_run0F [false, false, false, false, false, false, false, false, false, false, false, false, false, false, true, true] 4 (by kernel_rfl) (by kernel_rfl) (fun _ _ _ _ h => h) (by kernel_rfl) hHeld ?_
  simp only [runOps_true, runOps_false, runOps_nil]
  repeat (first | go_big_quiet_skip | (go_big_quiet_want; go_big_quiet_op; go_big_quiet_on))
  refine wpQuiet_nil ?_
  refine wpAnyU_ready (rs := [16]) (by kernel_rfl) (by simp) ?_
  refine AllReadyU.cons rfl (fun K hK => ?_) (AllReadyU.nil)
  go_simp
  go_wp2
  refine hK.out _ _ (fun _ => HeldS.mk' hm2) ?_
  clear hK K
  replace hHeld : HeldS (MostW b most) (W.setCell ⟨b, 6, none⟩ (.int .i64 (min least lo))) := HeldS.mk' hm2
  clear f1 l1
  refine wpAnyU_run0F [false, false, false, false, false, false, false, false, false, false, false, false, false, false, false, false, false, true, true] 1 (by kernel_rfl) (by kernel_rfl) (fun _ _ _ _ h => h) (by kernel_rfl) hHeld ?_
  simp only [runOps_true, runOps_false, runOps_nil]
  repeat (first | go_big_quiet_skip | (go_big_quiet_want; go_big_quiet_op; go_big_quiet_on))
  refine wpQuiet_nil ?_
  refine wpAnyU_ready (rs := [19]) (by kernel_rfl) (by simp) ?_
  refine AllReadyU.cons rfl (fun K hK => ?_) (AllReadyU.nil)
  go_simp
  go_wp2
  refine hK.out _ _ (fun h => late_no h (by kernel_rfl)) ?_
  clear hK K
  refine wpAnyU_done (by kernel_rfl) ?_ _
  refine NoPanic.normal ?_
  clear hHeld f2 l2
  go_wp2
  exact bodyPost_end (results_none rfl _ _ _) rfl ⟨rfl, H3.out, HF3.out⟩
end Go.Proofs.YtlbnlmhcpephbaaGreatDoor.Hh
namespace Go.Proofs.YtlbnlmhcpephbaaGreatDoor.Hh
open Go.RowKit
theorem rowAdd_one {ps : List (Int × Int)} {q c : Int} : (rowAdd ps q c).length ≤ ps.length + 1 := by
  unfold rowAdd
  have h1 : ∀ (l : List (Int × Int)), (l.filter fun y => decide (y.1 < q)).length + (l.filter fun y => decide (q < y.1)).length ≤ l.length := by
    intro l
    induction l with
    | nil => simp
    | cons y l ih =>
      rw [List.filter_cons, List.filter_cons, List.length_cons]
      by_cases ha : y.1 < q
      · have hb : ¬ q < y.1 := by omega
        simp only [ha, hb, decide_true, decide_false, if_true, Bool.false_eq_true, if_false, List.length_cons]; omega
      · by_cases hb : q < y.1
        · simp only [ha, hb, decide_true, decide_false, if_true, Bool.false_eq_true, if_false, List.length_cons]; omega
        · simp only [ha, hb, decide_false, Bool.false_eq_true, if_false]; omega
  have h3 := h1 ps
  rw [List.length_append, List.length_append]
  split <;> simp only [List.length_cons, List.length_nil] <;> omega
theorem partD_rng {d : Int} {m : Nat} (h1 : 0 < m) (h2 : m ≤ 9223372036854775808) : 0 < partD d m ∧ partD d m ≤ 1048576 := by
 have hg := gOf_le d
 have a := idx_pos (g := gOf d) h1
 have b := idx_le_top (g := gOf d) (by omega) h1 h2
 have c := lastI hg
 unfold partD
 omega
def HputR (b : Nat) (S : List Nat) (d lim : Int) (ps0 ps1 : List (Int × Int)) (zero least most : Int) (w w' : World) : Prop :=
 ∃ S', GrownS S S' w.heap.size ∧ Hd w' b S' d lim ps0 ps1 zero least most ∧ Frame S w w'
section
variable {w w' : World} {b sp b0 b1 : Nat} {S0 S1 T : List Nat} {d lim zero least most : Int} {ps ps0 ps1 : List (Int × Int)}
theorem HdB.side0 (h : HdB w b sp b0 b1 S0 S1 d lim ps0 ps1 zero least most) (hg : GrownS S0 T w.heap.size) (hs : Strip w' b0 T 4096 ps) (hf : Frame S0 w w') : HdB w' b sp b0 b1 T S1 d lim ps ps1 zero least most := by
 have n : ∀ k, k < w.heap.size → k ∉ S0 → k ∉ T := fun k hk hn hm => by
  rcases hg k hm with h1 | h1
  ·exact hn h1
  ·omega
 exact ⟨hf.at h.at' h.n0, ⟨hf.at h.span.at' h.p0, h.span.d1, h.span.d4⟩, hs, h.s1.frame hf h.ap.symm, n _ h.at'.lt h.n0, h.n1, h.ns, n _ h.span.at'.lt h.p0, h.p1, fun k hk hm => n k (h.s1.lt k hm) (h.ap.symm k hm) hk⟩
theorem HdB.side1 (h : HdB w b sp b0 b1 S0 S1 d lim ps0 ps1 zero least most) (hg : GrownS S1 T w.heap.size) (hs : Strip w' b1 T 4096 ps) (hf : Frame S1 w w') : HdB w' b sp b0 b1 S0 T d lim ps0 ps zero least most := by
 have n : ∀ k, k < w.heap.size → k ∉ S1 → k ∉ T := fun k hk hn hm => by
  rcases hg k hm with h1 | h1
  ·exact hn h1
  ·omega
 exact ⟨hf.at h.at' h.n1, ⟨hf.at h.span.at' h.p1, h.span.d1, h.span.d4⟩, h.s0.frame hf h.ap, hs, h.n0, n _ h.at'.lt h.n1, h.ns, h.p0, n _ h.span.at'.lt h.p1, fun k hk => n k (h.s0.lt k hk) (h.ap k hk)⟩
end
theorem hends_any (b sp b0 b1 : Nat) (S0 S1 : List Nat) (d lim : Int) (ps0 ps1 : List (Int × Int)) (zero least most lo hi t : Int) (w : World) (h : HdB w b sp b0 b1 S0 S1 d lim ps0 ps1 zero least most) (hz : 0 ≤ zero) (ht : sumP ps0 + zero + sumP ps1 = t) (ht' : t ≤ 9223372036854775807) :
  Calls Tryz.prog 218 #[.pointer (some ⟨b, 0, none⟩), .int .i64 lo, .int .i64 hi] w fun e w' => e = .returned (.tuple #[]) ∧ HdB w' b sp b0 b1 S0 S1 d lim ps0 ps1 zero (if t = 0 then lo else min least lo) (if t = 0 then hi else max most hi) ∧ Frame [b] w w' := by
 subst ht
 by_cases h0 : sumP ps0 + zero + sumP ps1 = 0
 ·rw [if_pos h0, if_pos h0]; exact hends_none _ _ _ _ _ _ _ _ _ _ _ _ _ _ _ _ h hz h0
 ·rw [if_neg h0, if_neg h0]; exact hends_more _ _ _ _ _ _ _ _ _ _ _ _ _ _ _ _ h hz ht' h0
set_option maxRecDepth 100000 in
set_option maxHeartbeats 2000000 in
theorem hput_neg (b sp b0 b1 : Nat) (S0 S1 : List Nat) (d lim : Int) (ps0 ps1 : List (Int × Int)) (zero least most x c t : Int) (w : World) (h : HdB w b sp b0 b1 S0 S1 d lim ps0 ps1 zero least most) (hx1 : -9223372036854775808 ≤ x) (hx2 : x ≤ 9223372036854775807) (hx : x < 0)
  (hc : 0 < c) (hl : lim = 0 ∨ (0 < lim ∧ (x.natAbs : Int) ≤ lim)) (hz : 0 ≤ zero) (ht : sumP ps0 + zero + sumP ps1 = t) (hf : t + c ≤ 9223372036854775807) (hlen : ps0.length < 4096) :
  Calls Tryz.prog 214 #[.pointer (some ⟨b, 0, none⟩), .int .i64 x, .int .u64 c] w fun e w' => e = .returned (.int .i64 0) ∧ HputR b (b :: sp :: (S0 ++ S1)) d lim (rowAdd ps0 (partD d x.natAbs) c) ps1 zero (if t = 0 then x else min least x) (if t = 0 then x else max most x) w w' := by
 have HSG := Lib.hid fun W => sgof_any x W hx1 hx2
 have p0 := sumP_nonneg (ps := ps0) h.s0.gd.pos
 have p1 := sumP_nonneg (ps := ps1) h.s1.gd.pos
 have HT := Lib.hid (htotal_at _ _ _ _ _ _ _ _ _ _ _ _ _ w h hz (by omega))
 rw [ht] at HT
 have HSI := Lib.hid fun W (hb : Below w.heap.size w W) => hside_any _ _ _ _ _ _ _ _ _ _ _ _ _ x W (HdB.below h hb) (by omega) hx1 hx2
 rw [if_pos hx] at HSI
 have H := Lib.hid h
 have s1 := h.at'
 have f1 := s1.eight
 have l1 := s1.lt
 have c0 : (c == 0) = false := beq_eq_false_iff_ne.2 (by omega)
 obtain ⟨q, hq⟩ : ∃ q, partD d x.natAbs = q := ⟨_, rfl⟩
 have hq0 := partD_rng (d := d) (m := x.natAbs) (by omega) (by omega)
 rw [hq] at hq0 HSI
 rw [hq]
 have HQ : Hid (-9223372036854775808 ≤ q ∧ q ≤ 9223372036854775807) := ⟨by omega, by omega⟩
 have H0 : Hid (0 ≤ t ∧ t + c ≤ 9223372036854775807 ∧ 0 < c ∧ 0 ≤ zero ∧ 0 ≤ sumP ps1) := ⟨by omega, by omega, hc, hz, p1⟩
 have HTT := Lib.hid ht
 have hcnt := cnt_le_sumP (ps := ps0) h.s0.gd.pos q
 have HST : Hid (stCode 4096 ps0 q c = 0 ∧ stStep 4096 ps0 q c = rowAdd ps0 q c) := by
  have hr : stRoom 4096 ps0 q c := ⟨by omega, by have := rowAdd_one (ps := ps0) (q := q) (c := c); omega⟩
  exact ⟨by unfold stCode; rw [if_pos hc, if_pos hr], by unfold stStep; rw [if_pos ⟨hc, hr⟩]⟩
 obtain ⟨q1, q2⟩ := plus2_yes (a := t) (b := c) (by omega)
 have HP := Lib.hid (And.intro q1 q2)
 obtain ⟨m, hm⟩ : ∃ m : Int, (x.natAbs : Int) = m := ⟨_, rfl⟩
 rw [hm] at HSG hl
 have hlen4 : ¬ (4096 : Int) ≤ (ps0.length : Int) := by omega
 have HNE : Hid (cnt ps0 q ≠ 0 → (cnt ps0 q == 0) = false) := fun h => beq_eq_false_iff_ne.2 h
 obtain ⟨lo, hlo⟩ : ∃ l, (if t = 0 then x else min least x) = l := ⟨_, rfl⟩
 obtain ⟨hi, hhi⟩ : ∃ l, (if t = 0 then x else max most x) = l := ⟨_, rfl⟩
 rw [hlo, hhi]
 have HLO := Lib.hid hlo
 have HHI := Lib.hid hhi
 clear h hx hx1 hx2 hc hm hz ht hf p0 p1 q1 q2 hq0 hcnt hlen hq hlo hhi
 have HFIN : Hid (∀ w5 w6 e, Below w.heap.size w w5 → HdB w6 b sp b0 b1 S0 S1 d lim ps0 ps1 zero lo hi → Frame [b] w5 w6 → ∀ w7, SadR b0 S0 4096 ps0 q c w6 e w7 → e = .returned (.int .i64 0) ∧ HputR b (b :: sp :: (S0 ++ S1)) d lim (rowAdd ps0 q c) ps1 zero lo hi w w7) := by
  rintro w5 w6 e hb hH hF w7 ⟨rfl, T, hg, hS, hF7⟩
  rw [HST.out.1]
  rw [HST.out.2] at hS
  have hz := Nat.le_trans hb.size hF.size
  refine ⟨rfl, b :: sp :: (T ++ S1), fun k hk => ?_, ⟨_, _, _, _, _, rfl, hH.side0 hg hS hF7⟩, ((Frame.of_below hb).trans (hF.mono fun k hk => by simp at hk; simp [hk])).trans (hF7.mono fun k hk => by simp [hk])⟩
  simp only [List.mem_cons, List.mem_append] at hk ⊢
  rcases hk with rfl | rfl | hk | hk
  ·exact .inl (.inl rfl)
  ·exact .inl (.inr (.inl rfl))
  ·rcases hg k hk with h1 | h1
   ·exact .inl (.inr (.inr (.inl h1)))
   ·exact .inr (Nat.le_trans hz h1)
  ·exact .inl (.inr (.inr (.inr hk)))
 rcases hl with rfl | ⟨hl1, hl2⟩
 all_goals
  go_enter Tryz.func214, Tryz.ntmps214
  go_wp2_with fail
  refine (HSG.out w).mono ?_
  rintro e w1 ⟨rfl, rfl⟩
  clear HSG
  go_wp2_with fail
  refine HT.out.mono ?_
  rintro e w1 ⟨rfl, hb⟩
  have z1 := hb.size
  clear HT f1 l1
  go_wp2_with fail
  have a1 := At.new w1 #[.int .u64 t, .int .u64 c] 23
  refine (plus2_any w1.heap.size t c _ (by have := H0.out; omega) (by have := H0.out; omega) (by have := H0.out; omega) (by have := H0.out; omega) (a1.cell rfl) (a1.cell rfl)).mono ?_
  rintro e w2 ⟨rfl, rfl⟩
  rw [HP.out.1, HP.out.2]
  have hB2 : Below w.heap.size w (w1.alloc (.cells #[.int .u64 t, .int .u64 c] 23)) := (by repeat (first | with_reducible assumption | with_reducible exact Below.refl _ _ | with_reducible refine Below.drew ?_ | with_reducible refine Below.drewN ?_ _ | with_reducible refine Below.setCell ?_ (by first | omega | (simp; done) | (simp; omega)) _ | with_reducible refine Below.alloc ?_ (by first | omega | (simp; done) | (simp; omega) | (simp [World.setCell]; omega)) _))
  clear a1
  obtain ⟨W2, hW2⟩ : ∃ W2, w1.alloc (.cells #[.int .u64 t, .int .u64 c] 23) = W2 := ⟨_, rfl⟩
  have HB2 := Lib.hid hB2
  rw [hW2] at HB2
  try rw [hW2]
  clear hB2 hW2 hb
  go_wp2_with fail
  refine (HSI.out W2 HB2.out).mono ?_
  rintro e w3 ⟨rfl, hb3⟩
  have HB3 := Lib.hid (keep1 HB2.out hb3)
  clear HSI HB2 hb3
  go_wp2_with fail
  refine (sat_any b0 S0 4096 ps0 q w3 (H.out.s0.below HB3.out)).mono ?_
  rintro e w4 ⟨rfl, hb4⟩
  have HB4 := Lib.hid (keep1 HB3.out hb4)
  clear HB3 hb4
  have HEND := Lib.hid fun W (hb : Below w.heap.size w W) => hends_any _ _ _ _ _ _ _ _ _ _ _ _ _ x x t W (HdB.below H.out hb) H0.out.2.2.2.1 HTT.out (by have := H0.out; omega)
  rw [HLO.out, HHI.out] at HEND
  clear HLO HHI
  by_cases hcz : cnt ps0 q = 0
  ·rw [hcz]
   clear hcz HNE
   go_wp2_with fail
   refine (slen_any b0 S0 4096 ps0 w4 (H.out.s0.below HB4.out)).mono ?_
   rintro e w5 ⟨rfl, rfl⟩
   go_wp2_with fail
   refine (HEND.out w4 HB4.out).mono ?_
   rintro e w6 ⟨rfl, hH, hF⟩
   have HH6 := Lib.hid hH
   have HF6 := Lib.hid hF
   clear hH hF HEND
   go_wp2_with fail
   refine (sadd_any b0 S0 4096 ps0 q c w6 HH6.out.s0 (by have := H0.out; omega) (by have := H0.out; omega) HQ.out).mono ?_
   rintro e w7 hR
   obtain ⟨rfl, hFN⟩ := HFIN.out w4 w6 e HB4.out HH6.out HF6.out w7 hR
   clear hR HFIN
   go_wp2
   go_ret
   exact ⟨rfl, hFN⟩
  ·have hcz' := HNE.out hcz
   obtain ⟨cn, hcn⟩ : ∃ n, cnt ps0 q = n := ⟨_, rfl⟩
   rw [hcn] at hcz' ⊢
   clear hcz HNE hcn hlen4
   go_wp2_with fail
   refine (HEND.out w4 HB4.out).mono ?_
   rintro e w6 ⟨rfl, hH, hF⟩
   have HH6 := Lib.hid hH
   have HF6 := Lib.hid hF
   clear hH hF HEND
   go_wp2_with fail
   refine (sadd_any b0 S0 4096 ps0 q c w6 HH6.out.s0 (by have := H0.out; omega) (by have := H0.out; omega) HQ.out).mono ?_
   rintro e w7 hR
   obtain ⟨rfl, hFN⟩ := HFIN.out w4 w6 e HB4.out HH6.out HF6.out w7 hR
   clear hR HFIN
   go_wp2
   go_ret
   exact ⟨rfl, hFN⟩
set_option maxRecDepth 100000 in
set_option maxHeartbeats 2000000 in
theorem hput_pos (b sp b0 b1 : Nat) (S0 S1 : List Nat) (d lim : Int) (ps0 ps1 : List (Int × Int)) (zero least most x c t : Int) (w : World) (h : HdB w b sp b0 b1 S0 S1 d lim ps0 ps1 zero least most) (hx1 : -9223372036854775808 ≤ x) (hx2 : x ≤ 9223372036854775807) (hx : 0 < x)
  (hc : 0 < c) (hl : lim = 0 ∨ (0 < lim ∧ (x.natAbs : Int) ≤ lim)) (hz : 0 ≤ zero) (ht : sumP ps0 + zero + sumP ps1 = t) (hf : t + c ≤ 9223372036854775807) (hlen : ps1.length < 4096) :
  Calls Tryz.prog 214 #[.pointer (some ⟨b, 0, none⟩), .int .i64 x, .int .u64 c] w fun e w' => e = .returned (.int .i64 0) ∧ HputR b (b :: sp :: (S0 ++ S1)) d lim ps0 (rowAdd ps1 (partD d x.natAbs) c) zero (if t = 0 then x else min least x) (if t = 0 then x else max most x) w w' := by
 have HSG := Lib.hid fun W => sgof_any x W hx1 hx2
 have p0 := sumP_nonneg (ps := ps0) h.s0.gd.pos
 have p1 := sumP_nonneg (ps := ps1) h.s1.gd.pos
 have HT := Lib.hid (htotal_at _ _ _ _ _ _ _ _ _ _ _ _ _ w h hz (by omega))
 rw [ht] at HT
 have HSI := Lib.hid fun W (hb : Below w.heap.size w W) => hside_any _ _ _ _ _ _ _ _ _ _ _ _ _ x W (HdB.below h hb) (by omega) hx1 hx2
 rw [if_neg (by omega : ¬ x < 0)] at HSI
 have H := Lib.hid h
 have s1 := h.at'
 have f1 := s1.eight
 have l1 := s1.lt
 have c0 : (c == 0) = false := beq_eq_false_iff_ne.2 (by omega)
 obtain ⟨q, hq⟩ : ∃ q, partD d x.natAbs = q := ⟨_, rfl⟩
 have hq0 := partD_rng (d := d) (m := x.natAbs) (by omega) (by omega)
 rw [hq] at hq0 HSI
 rw [hq]
 have HQ : Hid (-9223372036854775808 ≤ q ∧ q ≤ 9223372036854775807) := ⟨by omega, by omega⟩
 have H0 : Hid (0 ≤ t ∧ t + c ≤ 9223372036854775807 ∧ 0 < c ∧ 0 ≤ zero ∧ 0 ≤ sumP ps0) := ⟨by omega, by omega, hc, hz, p0⟩
 have HTT := Lib.hid ht
 have hcnt := cnt_le_sumP (ps := ps1) h.s1.gd.pos q
 have HST : Hid (stCode 4096 ps1 q c = 0 ∧ stStep 4096 ps1 q c = rowAdd ps1 q c) := by
  have hr : stRoom 4096 ps1 q c := ⟨by omega, by have := rowAdd_one (ps := ps1) (q := q) (c := c); omega⟩
  exact ⟨by unfold stCode; rw [if_pos hc, if_pos hr], by unfold stStep; rw [if_pos ⟨hc, hr⟩]⟩
 obtain ⟨q1, q2⟩ := plus2_yes (a := t) (b := c) (by omega)
 have HP := Lib.hid (And.intro q1 q2)
 obtain ⟨m, hm⟩ : ∃ m : Int, (x.natAbs : Int) = m := ⟨_, rfl⟩
 rw [hm] at HSG hl
 have hlen4 : ¬ (4096 : Int) ≤ (ps1.length : Int) := by omega
 have HNE : Hid (cnt ps1 q ≠ 0 → (cnt ps1 q == 0) = false) := fun h => beq_eq_false_iff_ne.2 h
 obtain ⟨lo, hlo⟩ : ∃ l, (if t = 0 then x else min least x) = l := ⟨_, rfl⟩
 obtain ⟨hi, hhi⟩ : ∃ l, (if t = 0 then x else max most x) = l := ⟨_, rfl⟩
 rw [hlo, hhi]
 have HLO := Lib.hid hlo
 have HHI := Lib.hid hhi
 clear h hx hx1 hx2 hc hm hz ht hf p0 p1 q1 q2 hq0 hcnt hlen hq hlo hhi
 have HFIN : Hid (∀ w5 w6 e, Below w.heap.size w w5 → HdB w6 b sp b0 b1 S0 S1 d lim ps0 ps1 zero lo hi → Frame [b] w5 w6 → ∀ w7, SadR b1 S1 4096 ps1 q c w6 e w7 → e = .returned (.int .i64 0) ∧ HputR b (b :: sp :: (S0 ++ S1)) d lim ps0 (rowAdd ps1 q c) zero lo hi w w7) := by
  rintro w5 w6 e hb hH hF w7 ⟨rfl, T, hg, hS, hF7⟩
  rw [HST.out.1]
  rw [HST.out.2] at hS
  have hz := Nat.le_trans hb.size hF.size
  refine ⟨rfl, b :: sp :: (S0 ++ T), fun k hk => ?_, ⟨_, _, _, _, _, rfl, hH.side1 hg hS hF7⟩, ((Frame.of_below hb).trans (hF.mono fun k hk => by simp at hk; simp [hk])).trans (hF7.mono fun k hk => by simp [hk])⟩
  simp only [List.mem_cons, List.mem_append] at hk ⊢
  rcases hk with rfl | rfl | hk | hk
  ·exact .inl (.inl rfl)
  ·exact .inl (.inr (.inl rfl))
  ·exact .inl (.inr (.inr (.inl hk)))
  ·rcases hg k hk with h1 | h1
   ·exact .inl (.inr (.inr (.inr h1)))
   ·exact .inr (Nat.le_trans hz h1)
 rcases hl with rfl | ⟨hl1, hl2⟩
 all_goals
  go_enter Tryz.func214, Tryz.ntmps214
  go_wp2_with fail
  refine (HSG.out w).mono ?_
  rintro e w1 ⟨rfl, rfl⟩
  clear HSG
  go_wp2_with fail
  refine HT.out.mono ?_
  rintro e w1 ⟨rfl, hb⟩
  have z1 := hb.size
  clear HT f1 l1
  go_wp2_with fail
  have a1 := At.new w1 #[.int .u64 t, .int .u64 c] 23
  refine (plus2_any w1.heap.size t c _ (by have := H0.out; omega) (by have := H0.out; omega) (by have := H0.out; omega) (by have := H0.out; omega) (a1.cell rfl) (a1.cell rfl)).mono ?_
  rintro e w2 ⟨rfl, rfl⟩
  rw [HP.out.1, HP.out.2]
  have hB2 : Below w.heap.size w (w1.alloc (.cells #[.int .u64 t, .int .u64 c] 23)) := (by repeat (first | with_reducible assumption | with_reducible exact Below.refl _ _ | with_reducible refine Below.drew ?_ | with_reducible refine Below.drewN ?_ _ | with_reducible refine Below.setCell ?_ (by first | omega | (simp; done) | (simp; omega)) _ | with_reducible refine Below.alloc ?_ (by first | omega | (simp; done) | (simp; omega) | (simp [World.setCell]; omega)) _))
  clear a1
  obtain ⟨W2, hW2⟩ : ∃ W2, w1.alloc (.cells #[.int .u64 t, .int .u64 c] 23) = W2 := ⟨_, rfl⟩
  have HB2 := Lib.hid hB2
  rw [hW2] at HB2
  try rw [hW2]
  clear hB2 hW2 hb
  go_wp2_with fail
  refine (HSI.out W2 HB2.out).mono ?_
  rintro e w3 ⟨rfl, hb3⟩
  have HB3 := Lib.hid (keep1 HB2.out hb3)
  clear HSI HB2 hb3
  go_wp2_with fail
  refine (sat_any b1 S1 4096 ps1 q w3 (H.out.s1.below HB3.out)).mono ?_
  rintro e w4 ⟨rfl, hb4⟩
  have HB4 := Lib.hid (keep1 HB3.out hb4)
  clear HB3 hb4
  have HEND := Lib.hid fun W (hb : Below w.heap.size w W) => hends_any _ _ _ _ _ _ _ _ _ _ _ _ _ x x t W (HdB.below H.out hb) H0.out.2.2.2.1 HTT.out (by have := H0.out; omega)
  rw [HLO.out, HHI.out] at HEND
  clear HLO HHI
  by_cases hcz : cnt ps1 q = 0
  ·rw [hcz]
   clear hcz HNE
   go_wp2_with fail
   refine (slen_any b1 S1 4096 ps1 w4 (H.out.s1.below HB4.out)).mono ?_
   rintro e w5 ⟨rfl, rfl⟩
   go_wp2_with fail
   refine (HEND.out w4 HB4.out).mono ?_
   rintro e w6 ⟨rfl, hH, hF⟩
   have HH6 := Lib.hid hH
   have HF6 := Lib.hid hF
   clear hH hF HEND
   go_wp2_with fail
   refine (sadd_any b1 S1 4096 ps1 q c w6 HH6.out.s1 (by have := H0.out; omega) (by have := H0.out; omega) HQ.out).mono ?_
   rintro e w7 hR
   obtain ⟨rfl, hFN⟩ := HFIN.out w4 w6 e HB4.out HH6.out HF6.out w7 hR
   clear hR HFIN
   go_wp2
   go_ret
   exact ⟨rfl, hFN⟩
  ·have hcz' := HNE.out hcz
   obtain ⟨cn, hcn⟩ : ∃ n, cnt ps1 q = n := ⟨_, rfl⟩
   rw [hcn] at hcz' ⊢
   clear hcz HNE hcn hlen4
   go_wp2_with fail
   refine (HEND.out w4 HB4.out).mono ?_
   rintro e w6 ⟨rfl, hH, hF⟩
   have HH6 := Lib.hid hH
   have HF6 := Lib.hid hF
   clear hH hF HEND
   go_wp2_with fail
   refine (sadd_any b1 S1 4096 ps1 q c w6 HH6.out.s1 (by have := H0.out; omega) (by have := H0.out; omega) HQ.out).mono ?_
   rintro e w7 hR
   obtain ⟨rfl, hFN⟩ := HFIN.out w4 w6 e HB4.out HH6.out HF6.out w7 hR
   clear hR HFIN
   go_wp2
   go_ret
   exact ⟨rfl, hFN⟩
set_option maxRecDepth 100000 in
set_option maxHeartbeats 2000000 in
theorem hput_nought (b sp b0 b1 : Nat) (S0 S1 : List Nat) (d lim : Int) (ps0 ps1 : List (Int × Int)) (zero least most c t : Int) (w : World) (h : HdB w b sp b0 b1 S0 S1 d lim ps0 ps1 zero least most)
  (hc : 0 < c) (hl : 0 ≤ lim) (hz : 0 ≤ zero) (ht : sumP ps0 + zero + sumP ps1 = t) (hf : t + c ≤ 9223372036854775807) :
  Calls Tryz.prog 214 #[.pointer (some ⟨b, 0, none⟩), .int .i64 0, .int .u64 c] w fun e w' => e = .returned (.int .i64 0) ∧ HputR b (b :: sp :: (S0 ++ S1)) d lim ps0 ps1 (zero + c) (if t = 0 then 0 else min least 0) (if t = 0 then 0 else max most 0) w w' := by
 have HSG := Lib.hid fun W => sgof_any 0 W (by omega) (by omega)
 have p0 := sumP_nonneg (ps := ps0) h.s0.gd.pos
 have p1 := sumP_nonneg (ps := ps1) h.s1.gd.pos
 have HT := Lib.hid (htotal_at _ _ _ _ _ _ _ _ _ _ _ _ _ w h hz (by omega))
 rw [ht] at HT
 have HSI := Lib.hid fun W (hb : Below w.heap.size w W) => hside_zero _ _ _ _ _ _ _ _ _ _ _ _ _ W (HdB.below h hb)
 have H := Lib.hid h
 have s1 := h.at'
 have f1 := s1.eight
 have l1 := s1.lt
 have c0 : (c == 0) = false := beq_eq_false_iff_ne.2 (by omega)
 have H0 : Hid (0 ≤ t ∧ t + c ≤ 9223372036854775807 ∧ 0 < c ∧ 0 ≤ zero) := ⟨by omega, by omega, hc, hz⟩
 have HTT := Lib.hid ht
 have HW : Hid (IntKind.u64.wrap (zero + c) = zero + c) := by show _ = _; simp only [IntKind.wrap_u64]; omega
 obtain ⟨q1, q2⟩ := plus2_yes (a := t) (b := c) (by omega)
 have HP := Lib.hid (And.intro q1 q2)
 obtain ⟨lo, hlo⟩ : ∃ l, (if t = 0 then 0 else min least 0) = l := ⟨_, rfl⟩
 obtain ⟨hi, hhi⟩ : ∃ l, (if t = 0 then 0 else max most 0) = l := ⟨_, rfl⟩
 rw [hlo, hhi]
 have HLO := Lib.hid hlo
 have HHI := Lib.hid hhi
 have hln : (decide (0 < lim) = true → decide (lim < 0) = false) := fun _ => decide_eq_false (by omega)
 have hln' : decide (lim < 0) = false := decide_eq_false (by omega)
 clear h hc hz ht hf p0 p1 q1 q2 hlo hhi hln
 rcases (by omega : lim = 0 ∨ 0 < lim) with rfl | hl1
 all_goals
  go_enter Tryz.func214, Tryz.ntmps214
  go_wp2_with fail
  refine (HSG.out w).mono ?_
  rintro e w1 ⟨rfl, rfl⟩
  rw [show ((Int.natAbs 0 : Nat) : Int) = 0 from rfl, show decide ((0 : Int) < 0) = false from rfl]
  clear HSG
  go_wp2_with fail
  refine HT.out.mono ?_
  rintro e w1 ⟨rfl, hb⟩
  have z1 := hb.size
  clear HT f1 l1
  go_wp2_with fail
  have a1 := At.new w1 #[.int .u64 t, .int .u64 c] 23
  refine (plus2_any w1.heap.size t c _ (by have := H0.out; omega) (by have := H0.out; omega) (by have := H0.out; omega) (by have := H0.out; omega) (a1.cell rfl) (a1.cell rfl)).mono ?_
  rintro e w2 ⟨rfl, rfl⟩
  rw [HP.out.1, HP.out.2]
  have hB2 : Below w.heap.size w (w1.alloc (.cells #[.int .u64 t, .int .u64 c] 23)) := (by repeat (first | with_reducible assumption | with_reducible exact Below.refl _ _ | with_reducible refine Below.drew ?_ | with_reducible refine Below.drewN ?_ _ | with_reducible refine Below.setCell ?_ (by first | omega | (simp; done) | (simp; omega)) _ | with_reducible refine Below.alloc ?_ (by first | omega | (simp; done) | (simp; omega) | (simp [World.setCell]; omega)) _))
  clear a1
  obtain ⟨W2, hW2⟩ : ∃ W2, w1.alloc (.cells #[.int .u64 t, .int .u64 c] 23) = W2 := ⟨_, rfl⟩
  have HB2 := Lib.hid hB2
  rw [hW2] at HB2
  try rw [hW2]
  clear hB2 hW2 hb
  go_wp2_with fail
  refine (HSI.out W2 HB2.out).mono ?_
  rintro e w3 ⟨rfl, hb3⟩
  have HB3 := Lib.hid (keep1 HB2.out hb3)
  clear HSI HB2 hb3
  have HEND := Lib.hid fun W (hb : Below w.heap.size w W) => hends_any _ _ _ _ _ _ _ _ _ _ _ _ _ 0 0 t W (HdB.below H.out hb) H0.out.2.2.2 HTT.out (by have := H0.out; omega)
  rw [HLO.out, HHI.out] at HEND
  go_wp2_with fail
  refine (HEND.out w3 HB3.out).mono ?_
  rintro e w6 ⟨rfl, hH, hF⟩
  have hH7 := hH.set (zero' := zero + c) (least' := lo) (most' := hi) 5 (.int .u64 (zero + c)) (hH.at'.set_any 5 _ rfl)
  have hR : HputR b (b :: sp :: (S0 ++ S1)) d _ ps0 ps1 (zero + c) lo hi w (w6.setCell ⟨b, 5, none⟩ (.int .u64 (zero + c))) :=
   ⟨_, GrownS.refl _ _, ⟨_, _, _, _, _, rfl, hH7⟩, ((Frame.of_below HB3.out).trans (hF.mono fun k hk => by simp at hk; simp [hk])).setc (.inl (by simp)) 5 _⟩
  have HR := Lib.hid hR
  have f6 := hH.at'.eight
  have l6 := hH.at'.lt
  clear hH hF HEND hR hH7
  go_wp2
  rw [HW.out]
  go_ret
  exact ⟨rfl, HR.out⟩
end Go.Proofs.YtlbnlmhcpephbaaGreatDoor.Hh
namespace Go.Proofs.YtlbnlmhcpephbaaGreatDoor.Hh
open Go.RowKit
structure VOk (l : List (Int × Int)) : Prop where
 ok : okP l
 pos : ∀ v ∈ l, 0 < v.2
 sum : sumP l ≤ 9223372036854775807
theorem VOk.nil : VOk [] := ⟨fun x hx => by simp at hx, fun x hx => by simp at hx, by rw [sumP_nil]; omega⟩
theorem VOk.sum0 {l : List (Int × Int)} (h : VOk l) : 0 ≤ sumP l := sumP_nonneg h.pos
theorem VOk.snoc {l : List (Int × Int)} (h : VOk l) {x c : Int} (hx : -9223372036854775808 ≤ x ∧ x ≤ 9223372036854775807) (hc : 0 < c) (hs : sumP l + c ≤ 9223372036854775807) : VOk (l ++ [(x, c)]) := by
 have h0 := h.sum0
 refine ⟨fun v hv => ?_, fun v hv => ?_, ?_⟩
 ·rcases List.mem_append.1 hv with h1 | h1
  ·exact h.ok v h1
  ·rw [List.mem_singleton] at h1; subst h1; exact ⟨hx, by dsimp only; omega, by dsimp only; omega⟩
 ·rcases List.mem_append.1 hv with h1 | h1
  ·exact h.pos v h1
  ·rw [List.mem_singleton] at h1; subst h1; exact hc
 ·rw [sumP_append, sumP_cons, sumP_nil]; dsimp only; omega
theorem VOk.total {l : List (Int × Int)} {part : Nat → Int} (h : VOk l) : sumP (rowV part true l) + zeroV l + sumP (rowV part false l) = sumP l ∧ 0 ≤ zeroV l := by
 have hs := h.sum
 rw [negV_row h.pos (by omega), posV_row h.pos (by omega), sum_three l]
 exact ⟨rfl, sumP_nonneg fun v hv => h.pos v (List.mem_filter.1 hv).1⟩
theorem VOk.empty {l : List (Int × Int)} (h : VOk l) : sumP l = 0 ↔ l = [] := by
  constructor
  · intro h0
    cases l with
    | nil => rfl
    | cons v l =>
      have h1 := h.pos v (by simp)
      have h2 := sumP_nonneg (ps := l) fun u hu => h.pos u (by simp [hu])
      rw [sumP_cons] at h0
      omega
  · rintro rfl; rfl
theorem eLow_snoc {l : List (Int × Int)} (h : VOk l) (x c : Int) : eLow (l ++ [(x, c)]) = (if sumP l = 0 then x else min (eLow l) x) ∧ eHigh (l ++ [(x, c)]) = (if sumP l = 0 then x else max (eHigh l) x) := by
 by_cases h0 : l = []
 ·subst h0
  rw [if_pos sumP_nil, if_pos sumP_nil]
  unfold eLow eHigh lowV highV
  simp
 ·have hl : l.length ≠ 0 := fun e => h0 (List.eq_nil_of_length_eq_zero e)
  rw [if_neg fun e => h0 (h.empty.1 e), if_neg fun e => h0 (h.empty.1 e)]
  have hh : (l ++ [(x, c)]).headD (0, 0) = l.headD (0, 0) := by
   cases l with
   | nil => exact absurd rfl h0
   | cons v l => rfl
  unfold eLow eHigh
  rw [if_neg hl, if_neg hl, if_neg (by simp), if_neg (by simp), hh, lowV_append, highV_append]
  exact ⟨rfl, rfl⟩
theorem zeroV_snoc {l : List (Int × Int)} (x c : Int) : zeroV (l ++ [(x, c)]) = if x = 0 then zeroV l + c else zeroV l := by
 unfold zeroV
 rw [List.filter_append, sumP_append]
 by_cases hx : x = 0
 ·rw [if_pos hx, List.filter_cons_of_pos (by simpa using hx), List.filter_nil, sumP_cons, sumP_nil]; dsimp only; omega
 ·rw [if_neg hx, List.filter_cons_of_neg (by simpa using hx), List.filter_nil, sumP_nil]; omega
def HdV (w : World) (b : Nat) (S : List Nat) (d lim : Int) (l : List (Int × Int)) : Prop := Hd w b S d lim (rowV (partD d) true l) (rowV (partD d) false l) (zeroV l) (eLow l) (eHigh l)
section
variable {w w' : World} {b : Nat} {S T : List Nat} {d lim : Int} {l : List (Int × Int)}
theorem HdV.frame (h : HdV w b S d lim l) (hf : Frame T w w') (hn : Apart S T) : HdV w' b S d lim l := Hd.frame h hf hn
theorem HdV.below (h : HdV w b S d lim l) (hb : Below w.heap.size w w') : HdV w' b S d lim l := Hd.below h hb
end
theorem htotal_v (b : Nat) (S : List Nat) (d lim : Int) (l : List (Int × Int)) (w : World) (h : HdV w b S d lim l) (hv : VOk l) :
  Calls Tryz.prog 107 #[.pointer (some ⟨b, 0, none⟩)] w fun e w' => e = .returned (.int .u64 (sumP l)) ∧ Below w.heap.size w w' := by
 obtain ⟨sp, b0, b1, S0, S1, rfl, h⟩ := h
 obtain ⟨t1, t2⟩ := hv.total (part := partD d)
 have := hv.sum
 refine (htotal_at _ _ _ _ _ _ _ _ _ _ _ _ _ w h t2 (by omega)).mono fun e w' hR => ?_
 rw [t1] at hR
 exact hR
def HpvR (b : Nat) (S : List Nat) (d lim : Int) (l : List (Int × Int)) (w w' : World) : Prop := ∃ S', GrownS S S' w.heap.size ∧ HdV w' b S' d lim l ∧ Frame S w w'
theorem hput_v (b : Nat) (S : List Nat) (d lim x c : Int) (l : List (Int × Int)) (w : World) (h : HdV w b S d lim l) (hv : VOk l) (hx : -9223372036854775808 ≤ x ∧ x ≤ 9223372036854775807) (hc : 0 < c) (hs : sumP l + c ≤ 9223372036854775807)
  (hl : lim = 0 ∨ (0 < lim ∧ (x.natAbs : Int) ≤ lim)) (hn : l.length < 4096) :
  Calls Tryz.prog 214 #[.pointer (some ⟨b, 0, none⟩), .int .i64 x, .int .u64 c] w fun e w' => e = .returned (.int .i64 0) ∧ HpvR b S d lim (l ++ [(x, c)]) w w' := by
 obtain ⟨sp, b0, b1, S0, S1, rfl, h⟩ := h
 obtain ⟨t1, t2⟩ := hv.total (part := partD d)
 have l0 := rowV_len (part := partD d) (below := true) (l := l)
 have l1 := rowV_len (part := partD d) (below := false) (l := l)
 obtain ⟨e1, e2⟩ := eLow_snoc hv x c
 have e3 := zeroV_snoc (l := l) x c
 have e4 := rowV_snoc (part := partD d) (below := true) (l := l) (x, c)
 have e5 := rowV_snoc (part := partD d) (below := false) (l := l) (x, c)
 rw [sgn_true] at e4
 rw [sgn_false] at e5
 dsimp only at e4 e5
 unfold HpvR HdV
 rw [e1, e2, e3, e4, e5]
 rcases Int.lt_trichotomy x 0 with h1 | rfl | h1
 ·rw [if_neg (by omega : ¬ x = 0), if_pos (decide_eq_true h1), if_neg (by simp; omega)]
  exact hput_neg _ _ _ _ _ _ _ _ _ _ _ _ _ _ _ _ w h hx.1 hx.2 h1 hc hl t2 t1 hs (by omega)
 ·rw [if_pos rfl, if_neg (by simp), if_neg (by simp)]
  exact hput_nought _ _ _ _ _ _ _ _ _ _ _ _ _ _ _ w h hc (by omega) t2 t1 hs
 ·rw [if_neg (by omega : ¬ x = 0), if_neg (by simp; omega), if_pos (decide_eq_true h1)]
  exact hput_pos _ _ _ _ _ _ _ _ _ _ _ _ _ _ _ _ w h hx.1 hx.2 h1 hc hl t2 t1 hs (by omega)
end Go.Proofs.YtlbnlmhcpephbaaGreatDoor.Hh
namespace Go.Proofs.YtlbnlmhcpephbaaGreatDoor.Hh
open Go.RowKit
theorem partD_mono (d : Int) : PartMono (partD d) := fun a b ha hab hb => by
 have := idx_mono (g := gOf d) ha hab
 unfold partD
 omega
theorem repI_idx {g m : Nat} (h : 0 < m) : repI g (idxN g m) = repM g m := by unfold repI repM; rw [loI_idx h, hiI_idx h]
theorem repM_le {g m : Nat} (h : 0 < m) (h2 : m ≤ 9223372036854775808) : loN g m ≤ repM g m ∧ repM g m ≤ hiN g m := by
 have := lo_le_hi (g := g) h h2
 unfold repM; omega
theorem wrap_in {z : Int} (h : 0 ≤ z ∧ z < 18446744073709551616) : IntKind.u64.wrap z = z := by simp only [IntKind.wrap_u64]; omega
set_option maxRecDepth 100000 in
set_option maxHeartbeats 2000000 in
theorem hfind_v (b sp b0 b1 : Nat) (S0 S1 : List Nat) (d lim : Int) (lo hi : Int) (l : List (Int × Int)) (t x : Int) (w : World) (h : HdB w b sp b0 b1 S0 S1 d lim (rowV (partD d) true l) (rowV (partD d) false l) (zeroV l) lo hi) (hv : VOk l) (hx : IsExact l t x) (h1 : 1 ≤ t) (h2 : t ≤ sumP l) :
  Calls Tryz.prog 219 #[.pointer (some ⟨b, 0, none⟩), .int .u64 t] w fun e w' => e = .returned (.int .i64 (standV (repM (gOf d)) x)) ∧ Below w.heap.size w w' := by
 have hs := hv.sum
 obtain ⟨v, hvm, hvx⟩ := hx.mem
 have hxr := (hv.ok v hvm).1
 rw [hvx] at hxr
 have hneg := negV_row (part := partD d) hv.pos (by omega)
 have hpos := posV_row (part := partD d) hv.pos (by omega)
 have hth := sum_three l
 have n0 : 0 ≤ negV l := sumP_nonneg fun v hh => hv.pos v (List.mem_filter.1 hh).1
 have z0 : 0 ≤ zeroV l := sumP_nonneg fun v hh => hv.pos v (List.mem_filter.1 hh).1
 have q0 : 0 ≤ posV l := sumP_nonneg fun v hh => hv.pos v (List.mem_filter.1 hh).1
 have s1 := h.at'
 have HT := Lib.hid (stotal_any b0 S0 4096 _ w h.s0)
 rw [hneg] at HT
 have HF0 := Lib.hid fun (u : Int) (hu : 0 ≤ u ∧ u < 18446744073709551616) W (hb : Below w.heap.size w W) => sfind_any b0 S0 4096 (rowV (partD d) true l) u W (h.s0.below hb) hu
 have HF1 := Lib.hid fun (u : Int) (hu : 0 ≤ u ∧ u < 18446744073709551616) W (hb : Below w.heap.size w W) => (sfind_any b1 S1 4096 (rowV (partD d) false l) u W (h.s1.below hb) hu).mono fun e w' (hR : e = .returned (optI (findP u 0 (rowV (partD d) false l))) ∧ W = w') => (⟨hR.1, by rw [← hR.2]; exact Below.refl _ _⟩ : e = .returned (optI (findP u 0 (rowV (partD d) false l))) ∧ Below W.heap.size W w')
 have HRP := Lib.hid fun (i : Nat) W (hb : Below w.heap.size w W) => sprep_any sp i d W (h.span.below hb)
 rcases Int.lt_trichotomy x 0 with hlt | rfl | hgt
 ·obtain ⟨k1, k2⟩ := exact_neg (partD_mono d) hv.ok hv.pos (by omega) hx hlt h1
  have a0 : 0 < x.natAbs := by omega
  have a1 : x.natAbs ≤ 9223372036854775808 := by omega
  have hr := repM_le (g := gOf d) a0 a1
  have hh := hi_le (gOf d) x.natAbs
  have HST : Hid (standV (repM (gOf d)) x = -(repM (gOf d) x.natAbs : Int)) := by show _ = _; unfold standV; rw [if_neg (by omega), if_neg (by omega)]
  have HR1 := Lib.hid fun W (hb : Below w.heap.size w W) => HRP.out (idxN (gOf d) x.natAbs) W hb (idx_pos a0) (idx_le_top (by have := gOf_le d; omega) a0 a1)
  rw [repI_idx a0] at HR1
  obtain ⟨rp, hrp⟩ : ∃ r, repM (gOf d) x.natAbs = r := ⟨_, rfl⟩
  rw [hrp] at hr HST HR1
  have HV : Hid (valM rp true = -(rp : Int)) := by show _ = _; unfold valM; rw [if_pos rfl, if_pos (by omega)]
  have HSV := Lib.hid fun W => sgval_any rp true W (by omega) (by omega)
  have HFF := Lib.hid fun W (hb : Below w.heap.size w W) => HF0.out (negV l - t + 1) (by omega) W hb
  rw [k2] at HFF
  obtain ⟨q, hq⟩ : ∃ q, partD d x.natAbs = q := ⟨_, rfl⟩
  have HQ : Hid (q = (idxN (gOf d) x.natAbs : Nat)) := hq.symm
  rw [hq] at HFF
  rw [HST.out]
  obtain ⟨n, hn⟩ : ∃ n, negV l = n := ⟨_, rfl⟩
  rw [hn] at HT HFF k1 n0
  have w1 : IntKind.u64.wrap (IntKind.u64.wrap (n - t) + 1) = n - t + 1 := by rw [wrap_in (z := n - t) (by omega)]; exact wrap_in (by omega)
  have HW := Lib.hid w1
  have HK : Hid (t ≤ n) := k1
  have kd : decide (t ≤ n) = true := decide_eq_true k1
  have f1 := s1.eight
  have l1 := s1.lt
  clear h hv hx h1 h2 hs hvm hvx hxr hneg hpos hth n0 z0 q0 HF0 HF1 HRP hlt k2 a0 a1 hr hh HST hrp hq hn w1 k1 kd
  go_enter Tryz.func219, Tryz.ntmps219
  go_wp2_with fail
  refine HT.out.mono ?_
  rintro e w1 ⟨rfl, rfl⟩
  have k1 := HK.out
  clear HT
  go_wp2_with fail
  rw [HW.out]
  refine (HFF.out w (Below.refl _ _)).mono ?_
  rintro e w2 ⟨rfl, rfl⟩
  unfold optI
  clear HFF HW
  dsimp only [Option.getD_some, Option.isSome_some]
  go_wp2_with fail
  rw [HQ.out]
  refine (HR1.out w (Below.refl _ _)).mono ?_
  rintro e w3 ⟨rfl, hb3⟩
  clear HR1
  go_wp2_with fail
  refine (HSV.out w3).mono ?_
  rintro e w4 ⟨rfl, rfl⟩
  rw [HV.out]
  go_wp2
  go_ret
  exact ⟨rfl, hb3⟩
 ·obtain ⟨k1, k2⟩ := exact_zero hv.pos hx
  obtain ⟨n, hn⟩ : ∃ n, negV l = n := ⟨_, rfl⟩
  obtain ⟨z, hz⟩ : ∃ n, zeroV l = n := ⟨_, rfl⟩
  rw [hn] at HT k1 k2 n0
  rw [hz] at s1 k2
  have HK : Hid (n < t ∧ t - n ≤ z) := ⟨k1, k2⟩
  have w1 : IntKind.u64.wrap (t - n) = t - n := wrap_in (by omega)
  have HW := Lib.hid w1
  have f1 := s1.eight
  have l1 := s1.lt
  have HB := Lib.hid (Below.refl w.heap.size w)
  have HST : Hid (standV (repM (gOf d)) 0 = 0) := rfl
  rw [HST.out]
  clear h hv hx h1 h2 hs hvm hvx hxr hneg hpos hth n0 z0 q0 HF0 HF1 HRP k2 hn hz w1 k1 HST
  go_enter Tryz.func219, Tryz.ntmps219
  go_wp2_with fail
  refine HT.out.mono ?_
  rintro e w1 ⟨rfl, rfl⟩
  have k1 := HK.out.1
  have k2 := HK.out.2
  have k3 : ¬ t ≤ n := by omega
  clear HT k1 HK
  have HW' := HW.out
  go_wp2
  go_ret
  exact ⟨rfl, (by first | exact Below.refl _ _ | exact (Below.refl _ _).drewN _)⟩
 ·obtain ⟨k1, k2, k3⟩ := exact_pos (partD_mono d) hv.ok hv.pos (by omega) hx hgt
  have a0 : 0 < x.natAbs := by omega
  have a1 : x.natAbs ≤ 9223372036854775808 := by omega
  have hr := repM_le (g := gOf d) a0 a1
  have hh := hi_le (gOf d) x.natAbs
  have HST : Hid (standV (repM (gOf d)) x = min (repM (gOf d) x.natAbs : Int) 9223372036854775807) := by show _ = _; unfold standV; rw [if_neg (by omega), if_pos hgt]
  have HR1 := Lib.hid fun W (hb : Below w.heap.size w W) => HRP.out (idxN (gOf d) x.natAbs) W hb (idx_pos a0) (idx_le_top (by have := gOf_le d; omega) a0 a1)
  rw [repI_idx a0] at HR1
  obtain ⟨rp, hrp⟩ : ∃ r, repM (gOf d) x.natAbs = r := ⟨_, rfl⟩
  rw [hrp] at hr HST HR1
  have HRI : Hid ((rp : Int) < 9223372036854775808 ∨ (rp : Int) = 9223372036854775808) := by show _ ∨ _; omega
  have HSV := Lib.hid fun W => sgval_any rp false W (by omega) (by omega)
  have HFF := Lib.hid fun W (hb : Below w.heap.size w W) => HF1.out (t - negV l - zeroV l) (by omega) W hb
  rw [k3] at HFF
  obtain ⟨q, hq⟩ : ∃ q, partD d x.natAbs = q := ⟨_, rfl⟩
  have HQ : Hid (q = (idxN (gOf d) x.natAbs : Nat)) := hq.symm
  rw [hq] at HFF
  unfold optI at HFF
  dsimp only [Option.getD_some, Option.isSome_some] at HFF
  rw [HST.out]
  obtain ⟨n, hn⟩ : ∃ n, negV l = n := ⟨_, rfl⟩
  obtain ⟨z, hz⟩ : ∃ n, zeroV l = n := ⟨_, rfl⟩
  rw [hn] at HT HFF k1 k2 n0
  rw [hz] at HFF s1 k2 z0
  have w1 : IntKind.u64.wrap (t - n) = t - n := wrap_in (by omega)
  have w2 : IntKind.u64.wrap (t - n - z) = t - n - z := wrap_in (by omega)
  have HW := Lib.hid w1
  have HW2 := Lib.hid w2
  have HK : Hid (n < t ∧ z < t - n) := ⟨k1, k2⟩
  clear h hv hx h1 h2 hs hvm hvx hxr hneg hpos hth n0 z0 q0 HF0 HF1 HRP hgt k2 a0 a1 hr hh HST hrp hq hn hz w1 w2 k1 k3
  go_enter Tryz.func219, Tryz.ntmps219
  have f1 := s1.eight
  have l1 := s1.lt
  go_wp2_with fail
  refine HT.out.mono ?_
  rintro e w1 ⟨rfl, rfl⟩
  have k1 : ¬ t ≤ n := by have := HK.out; omega
  have k2 : ¬ t - n ≤ z := by have := HK.out; omega
  have w1 := HW.out
  have w2 := HW2.out
  clear HT
  go_wp2
  have hfar1 := fun x : Far w => (x.at s1).eight
  refine wp_region_far (by kernel_rfl) (by kernel_rfl) ?_
  repeat (first | go_big_quiet_skip | (go_big_quiet_want; go_big_quiet_op; first | go_big_quiet_on | (apply Exists.intro; refine ⟨fun _ => ?_, ?_⟩; (focus (first | (with_reducible refine far_of (HFF.out _ (Far.below _))))); go_big_quiet_on)))
  refine wpQuiet_nil ?_
  rintro _ ⟨xq, rfl⟩
  clear hfar1
  have hb3 := xq.below
  obtain ⟨W3, hW3⟩ : ∃ W, xq.far = W := ⟨_, rfl⟩
  rw [hW3] at hb3 ⊢
  replace s1 := s1.below hb3
  replace f1 := s1.eight
  replace l1 := s1.lt
  have HB3 := Lib.hid hb3
  clear hW3 hb3 HFF k1 k2 w1 w2 HW HW2 HK
  go_wp2_with fail
  rw [HQ.out]
  refine (HR1.out W3 HB3.out).mono ?_
  rintro e w4 ⟨rfl, hb4⟩
  have HB4 := Lib.hid (keep1 HB3.out hb4)
  clear HR1 hb4 HB3
  go_wp2_with fail
  refine (HSV.out w4).mono ?_
  rintro e w5 ⟨rfl, rfl⟩
  rcases HRI.out with hlt | heq
  ·have HV : valM rp false = rp ∧ valOk rp false = true := by unfold valM valOk; rw [if_neg (by decide), if_pos hlt, if_neg (by decide), decide_eq_true hlt]; exact ⟨rfl, rfl⟩
   rw [HV.1, HV.2]
   have HM : Hid (min (rp : Int) 9223372036854775807 = rp) := by show _ = _; omega
   clear HV hlt HRI
   go_wp2
   go_ret
   exact ⟨by rw [HM.out]; rfl, HB4.out⟩
  ·have HV : valM rp false = 0 ∧ valOk rp false = false := by unfold valM valOk; rw [if_neg (by decide), if_neg (by omega), if_neg (by decide), decide_eq_false (by omega)]; exact ⟨rfl, rfl⟩
   rw [HV.1, HV.2]
   have HM : Hid (min (rp : Int) 9223372036854775807 = 9223372036854775807) := by show _ = _; omega
   clear HV heq HRI
   go_wp2
   go_ret
   exact ⟨by rw [HM.out]; rfl, HB4.out⟩
theorem placeE_zero {a d n : Int} (hn : 0 ≤ n) (h : placeE a d n = 0) : 0 < n ∧ goodF a d = true := by
 unfold placeE at h
 split at h
 ·rename_i hg
  split at h
  ·omega
  ·exact ⟨by omega, hg⟩
 ·omega
set_option maxRecDepth 100000 in
set_option maxHeartbeats 2000000 in
theorem hquant_v (b : Nat) (S : List Nat) (dg lim : Int) (l : List (Int × Int)) (a d : Int) (w : World) (h : HdV w b S dg lim l) (hv : VOk l) (h1 : 0 ≤ a) (h2 : a < 18446744073709551616) (h3 : 0 ≤ d) (h4 : d < 18446744073709551616) :
  Calls Tryz.prog 215 #[.pointer (some ⟨b, 0, none⟩), .agg #[.int .u64 a, .int .u64 d]] w fun e w' => e = .returned (.tuple #[.int .i64 (quantD (standV (repM (gOf dg))) l a d), .int .i64 (placeE a d (sumP l))]) ∧ Below w.heap.size w w' := by
 have HTV := Lib.hid fun W (hb : Below w.heap.size w W) => htotal_v b S dg lim l W (h.below hb) hv
 obtain ⟨sp, b0, b1, S0, S1, rfl, h⟩ := h
 have s1 := h.at'
 have hs0 := hv.sum0
 have hs := hv.sum
 have HC := Lib.hid fun w' => place_any a d (sumP l) w' h1 h2 h3 h4 hs0 (by omega)
 have HQ : Hid (quantD (standV (repM (gOf dg))) l a d = if placeE a d (sumP l) = 0 then min (max (standV (repM (gOf dg)) ((exactV l (placeT a d (sumP l))).getD 0)) (eLow l)) (eHigh l) else 0) := rfl
 have HFD : Hid (placeE a d (sumP l) = 0 → ∀ W, Below w.heap.size w W → Calls Tryz.prog 219 #[.pointer (some ⟨b, 0, none⟩), .int .u64 (placeT a d (sumP l))] W fun e w' => e = .returned (.int .i64 (standV (repM (gOf dg)) ((exactV l (placeT a d (sumP l))).getD 0))) ∧ Below W.heap.size W w') := fun e W hb => by
  obtain ⟨p, q⟩ := placeE_zero hs0 e
  have hp := placeT_is h1 p (by omega) q
  obtain ⟨x, e2, e3⟩ := exactV_some hv.pos hp.one hp.le
  rw [e2, Option.getD_some]
  exact hfind_v b sp b0 b1 S0 S1 dg lim _ _ l _ x W (h.below hb) hv e3 hp.one hp.le
 obtain ⟨er, her⟩ : ∃ t, placeE a d (sumP l) = t := ⟨_, rfl⟩
 obtain ⟨t, ht⟩ : ∃ t, placeT a d (sumP l) = t := ⟨_, rfl⟩
 obtain ⟨qv, hqv⟩ : ∃ t, quantD (standV (repM (gOf dg))) l a d = t := ⟨_, rfl⟩
 rw [ht] at HQ HFD HC
 obtain ⟨sv, hsv⟩ : ∃ s, standV (repM (gOf dg)) ((exactV l t).getD 0) = s := ⟨_, rfl⟩
 rw [her] at HC HQ HFD ⊢
 rw [hsv] at HQ HFD
 rw [hqv] at HQ ⊢
 obtain ⟨tot, htot⟩ : ∃ t, sumP l = t := ⟨_, rfl⟩
 rw [htot] at HTV HC
 obtain ⟨el, hel⟩ : ∃ t, eLow l = t := ⟨_, rfl⟩
 obtain ⟨eh, heh⟩ : ∃ t, eHigh l = t := ⟨_, rfl⟩
 rw [hel, heh] at HQ s1
 have l1 := s1.lt
 clear h hv her ht hqv hsv htot hel heh h1 h2 h3 h4 hs0 hs
 go_enter Tryz.func215, Tryz.ntmps215
 go_wp2
 have hb0 : Below w.heap.size w (w.alloc (.cells #[.int .u64 a, .int .u64 d] 25)) := (Below.refl _ _).alloc (Nat.le_refl _) _
 have s2 := s1.below hb0
 have r2 := At.new' w #[.int .u64 a, .int .u64 d] 25 rfl
 obtain ⟨W1, hW1⟩ : ∃ W1, w.alloc (.cells #[.int .u64 a, .int .u64 d] 25) = W1 := ⟨_, rfl⟩
 rw [hW1] at hb0 s2 r2 ⊢
 obtain ⟨rb, hrb⟩ : ∃ r, w.heap.size = r := ⟨_, rfl⟩
 rw [hrb] at r2 l1
 try rw [hrb]
 have l2 := s2.lt
 have HB0 := Lib.hid hb0
 clear hW1 s1 hb0 hrb
 have hfar1 := fun x : Far W1 => (x.at s2).eight
 have hfar2 := fun x : Far W1 => (x.at r2).two
 refine wp_region_far (by kernel_rfl) (by kernel_rfl) ?_
 repeat (first | go_big_quiet_skip | (go_big_quiet_want; go_big_quiet_op; first | go_big_quiet_on | (apply Exists.intro; refine ⟨fun _ => ?_, ?_⟩; (focus (first | (with_reducible refine far_of (HTV.out _ (keep1 HB0.out (Far.below _)))) | (refine far_of (HC.out _)))); go_big_quiet_on)))
 refine wpQuiet_nil ?_
 rintro _ ⟨xq, rfl⟩
 clear hfar1 hfar2
 have hb2 := xq.below
 obtain ⟨W2, hW2⟩ : ∃ W2, xq.far = W2 := ⟨_, rfl⟩
 rw [hW2] at hb2 ⊢
 have HB2 : Hid (Below w.heap.size w W2) := keep1 HB0.out hb2
 replace s2 := s2.below hb2
 have f2 := s2.eight
 have l3 := s2.lt
 clear hW2 HC l1 l2 hb2 r2 HTV
 by_cases hE : er = 0
 ·subst hE
  have HFF := Lib.hid (HFD.out rfl)
  have HV := HQ.out
  rw [if_pos rfl] at HV
  replace HV := Lib.hid HV
  clear HQ HFD
  go_wp2
  have hfar1 := fun x : Far W2 => (x.at s2).eight
  refine wp_region_far (by kernel_rfl) (by kernel_rfl) ?_
  repeat (first | go_big_quiet_skip | (go_big_quiet_want; go_big_quiet_op; first | go_big_quiet_on | (apply Exists.intro; refine ⟨fun _ => ?_, ?_⟩; (focus (first | (with_reducible refine far_of (HFF.out _ (keep1 HB2.out (Far.below _)))))); go_big_quiet_on)))
  refine wpQuiet_nil ?_
  rintro _ ⟨xq, rfl⟩
  clear hfar1
  have hb3 := xq.below
  have HB3 : Hid (Below w.heap.size w xq.far) := keep1 HB2.out hb3
  clear hb3 HFF
  go_wp2
  go_ret2
  exact ⟨by rw [HV.out]; rfl, HB3.out⟩
 ·have HV : Hid (qv = 0) := by show _ = _; rw [HQ.out, if_neg hE]
  have hne : (er == 0) = false := beq_eq_false_iff_ne.2 hE
  clear HQ HFD hE
  go_wp2
  go_ret2
  exact ⟨by rw [HV.out]; rfl, HB2.out⟩
end Go.Proofs.YtlbnlmhcpephbaaGreatDoor.Hh
namespace Go.Proofs.YtlbnlmhcpephbaaGreatDoor.Hh
section
variable {d : Int} {l : List (Int × Int)} {x : Int}
end
end Go.Proofs.YtlbnlmhcpephbaaGreatDoor.Hh
namespace Go.Proofs.YtlbnlmhcpephbaaGreatDoor.Hh
open Go.RowKit
end Go.Proofs.YtlbnlmhcpephbaaGreatDoor.Hh
namespace Go.Proofs.YtlbnlmhcpephbaaGreatDoor.Hh
open Go.RowKit
end Go.Proofs.YtlbnlmhcpephbaaGreatDoor.Hh
namespace Go.Proofs.YtlbnlmhcpephbaaGreatDoor.Hh
open Go.RowKit
def HdW (b : Nat) (cs : Array Value) (W : World) : Prop := At W b cs 161
def RowsR (ps0 ps1 : List (Int × Int)) (w : World) (e : Ending) (w' : World) : Prop :=
 ∃ A0 c0 A1 c1, e = .returned (.tuple #[.slice A0 ps0.length c0, .slice A1 ps1.length c1]) ∧ RdP w' A0 ps0 ∧ RdP w' A1 ps1 ∧ Below w.heap.size w w'
end Go.Proofs.YtlbnlmhcpephbaaGreatDoor.Hh
namespace Go.Proofs.YtlbnlmhcpephbaaGreatDoor.Hh
open Go.RowKit
end Go.Proofs.YtlbnlmhcpephbaaGreatDoor.Hh
namespace Go.Proofs.YtlbnlmhcpephbaaGreatDoor.Hh
open Go.RowKit
structure Jn (w wr : World) (b sp b0 b1 : Nat) (S : List Nat) (U0 U1 : List Nat) (d lim : Int) (ps0 ps1 : List (Int × Int)) (zero lo hi : Int) (m : Nat) (T : List Nat) (d2 lim2 : Int) (qs0 qs1 : List (Int × Int)) (zero2 lo2 hi2 : Int) : Prop where
 s : HdB wr b sp b0 b1 U0 U1 d lim ps0 ps1 zero lo hi
 o : Hd wr m T d2 lim2 qs0 qs1 zero2 lo2 hi2
 gr : GrownS S (b :: sp :: (U0 ++ U1)) w.heap.size
 fr : Frame S w wr
 ap : ∀ k ∈ T, k ∉ S ∧ k < w.heap.size
section
variable {w wr w' : World} {b sp b0 b1 : Nat} {S U0 U1 V : List Nat} {d lim : Int} {ps ps0 ps1 : List (Int × Int)} {zero lo hi : Int} {m : Nat} {T : List Nat} {d2 lim2 : Int} {qs0 qs1 : List (Int × Int)} {zero2 lo2 hi2 : Int}
end
structure Inn (w5 wr : World) (A : Option Addr) (qs : List (Int × Int)) (V U : List Nat) : Prop where
 rd : RdP wr A qs
 gr : GrownS V U w5.heap.size
 ap : ∀ k ∈ blk A, k ∉ V ∧ k < w5.heap.size
 sz : w5.heap.size ≤ wr.heap.size
def jn0 (k : Nat) (ps qs : List (Int × Int)) : List (Int × Int) := if k = 0 then ps else addAll ps qs
def jn1 (k : Nat) (ps qs : List (Int × Int)) : List (Int × Int) := if k ≤ 1 then ps else addAll ps qs
end Go.Proofs.YtlbnlmhcpephbaaGreatDoor.Hh
namespace Go.Proofs.YtlbnlmhcpephbaaGreatDoor.Hh
open Go.RowKit
end Go.Proofs.YtlbnlmhcpephbaaGreatDoor.Hh
namespace Go.Proofs.YtlbnlmhcpephbaaGreatDoor.Hh
structure RowOk (top : Int) (q : List (Int × Int)) : Prop where
 gd : Gd q
 bd : ∀ x ∈ q, 0 < x.1 ∧ x.1 ≤ top
 sm : sumP q ≤ 9223372036854775807
structure RowIn (top last : Int) (ps : List (Int × Int)) : Prop where
 ok : RowOk top ps
 le : ∀ x ∈ ps, x.1 ≤ last
 mx : last = 0 ∨ ∃ x ∈ ps, x.1 = last
 l0 : 0 ≤ last
def topD (d : Int) : Int := ((64 - gOf d) * 2 ^ gOf d : Nat)
end Go.Proofs.YtlbnlmhcpephbaaGreatDoor.Hh
namespace Go.Proofs.YtlbnlmhcpephbaaGreatDoor.Hh
open Go.RowKit
def plus3Q (a b c : Int) : Int := if a + b + c ≤ 9223372036854775807 then a + b + c else 0
structure HloadOk (d : Int) (q0 q1 : List (Int × Int)) (zero lo hi : Int) : Prop where
 r0 : RowOk (topD d) q0
 r1 : RowOk (topD d) q1
 sm : sumP q0 + sumP q1 + zero ≤ 9223372036854775807
 le : lo ≤ hi
 z : sumP q0 + sumP q1 + zero = 0 → lo = 0 ∧ hi = 0
def HloadR (d lim : Int) (q0 q1 : List (Int × Int)) (zero lo hi : Int) (w : World) (e : Ending) (w' : World) : Prop :=
 (HloadOk d q0 q1 zero lo hi ∧ ∃ b S, e = .returned (.tuple #[.pointer (some ⟨b, 0, none⟩), .int .i64 0]) ∧ Within S w.heap.size w'.heap.size ∧ Hd w' b S d lim q0 q1 zero lo hi) ∨
 (¬ HloadOk d q0 q1 zero lo hi ∧ e = .returned (.tuple #[.pointer none, .int .i64 1]))
def rowOf (q0 q1 : List (Int × Int)) (k : Nat) : List (Int × Int) := if k = 0 then q0 else q1
def rowK (q : List (Int × Int)) (k i j : Nat) : List (Int × Int) := if k < i then [] else if k = i then q.take j else q
structure LdI (w W : World) (b sp : Nat) (d lim : Int) (q0 q1 : List (Int × Int)) (k j : Nat) : Prop where
 st : ∃ c0 c1 S0 S1, HdB W b sp c0 c1 S0 S1 d lim (rowK q0 k 0 j) (rowK q1 k 1 j) 0 0 0 ∧ Within (b :: sp :: (S0 ++ S1)) w.heap.size W.heap.size
 bl : Below w.heap.size w W
section
variable {w W W' : World} {b sp : Nat} {d lim : Int} {q0 q1 : List (Int × Int)} {k j : Nat}
end
def LdW (b k c g : Nat) (cs : Array Value) (x y : Int) (W : World) : Prop := (At W b cs 161 ∧ At W g #[.int .i64 x, .int .u64 y] 247) ∧ W.cell? ⟨b, 3 + k, none⟩ = some (.pointer (some ⟨c, 0, none⟩))
end Go.Proofs.YtlbnlmhcpephbaaGreatDoor.Hh
