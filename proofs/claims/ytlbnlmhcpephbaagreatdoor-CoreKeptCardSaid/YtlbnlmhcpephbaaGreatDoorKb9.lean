/- Texts of this claim, joined, indents halved: HdrAll. -/
import Derived.Test.YtlbnlmhcpephbaaGreatDoorProg
import Derived.Test.YtlbnlmhcpephbaaGreatDoorKb8
namespace Go.Proofs.YtlbnlmhcpephbaaGreatDoor.Hh
open Go.RowKit
theorem _root_.Go.Proofs.YtlbnlmhcpephbaaGreatDoor.At.eight {w : World} {b : Nat} {T : TypeId} {v0 v1 v2 v3 v4 v5 v6 v7 : Value} (h : At w b #[v0, v1, v2, v3, v4, v5, v6, v7] T) : (w.cell? ⟨b, 0, none⟩ = some v0 ∧ w.cell? ⟨b, 1, none⟩ = some v1 ∧ w.cell? ⟨b, 2, none⟩ = some v2 ∧ w.cell? ⟨b, 3, none⟩ = some v3 ∧ w.cell? ⟨b, 4, none⟩ = some v4 ∧ w.cell? ⟨b, 5, none⟩ = some v5 ∧ w.cell? ⟨b, 6, none⟩ = some v6 ∧ w.cell? ⟨b, 7, none⟩ = some v7) ∧
  w.frozen? ⟨b, 0, none⟩ = false ∧ w.frozen? ⟨b, 1, none⟩ = false ∧ w.frozen? ⟨b, 2, none⟩ = false ∧ w.frozen? ⟨b, 3, none⟩ = false ∧ w.frozen? ⟨b, 4, none⟩ = false ∧ w.frozen? ⟨b, 5, none⟩ = false ∧ w.frozen? ⟨b, 6, none⟩ = false ∧ w.frozen? ⟨b, 7, none⟩ = false :=
 ⟨⟨h.cell rfl, h.cell rfl, h.cell rfl, h.cell rfl, h.cell rfl, h.cell rfl, h.cell rfl, h.cell rfl⟩, h.frozen 0, h.frozen 1, h.frozen 2, h.frozen 3, h.frozen 4, h.frozen 5, h.frozen 6, h.frozen 7⟩
structure HdB (w : World) (b sp b0 b1 : Nat) (S0 S1 : List Nat) (d lim : Int) (ps0 ps1 : List (Int × Int)) (zero least most : Int) : Prop where
 at' : At w b #[.int .i64 d, .int .u64 lim, .pointer (some ⟨sp, 0, none⟩), .pointer (some ⟨b0, 0, none⟩), .pointer (some ⟨b1, 0, none⟩), .int .u64 zero, .int .i64 least, .int .i64 most] 161
 span : SpanAt w sp d
 s0 : Strip w b0 S0 4096 ps0
 s1 : Strip w b1 S1 4096 ps1
 n0 : b ∉ S0
 n1 : b ∉ S1
 ns : b ≠ sp
 p0 : sp ∉ S0
 p1 : sp ∉ S1
 ap : Apart S0 S1
section
variable {w w' : World} {b sp b0 b1 : Nat} {S0 S1 T : List Nat} {d lim zero least most : Int} {ps0 ps1 : List (Int × Int)}
theorem HdB.frame (h : HdB w b sp b0 b1 S0 S1 d lim ps0 ps1 zero least most) (hf : Frame T w w') (hb : b ∉ T) (hs : sp ∉ T) (h0 : Apart S0 T) (h1 : Apart S1 T) : HdB w' b sp b0 b1 S0 S1 d lim ps0 ps1 zero least most :=
 ⟨hf.at h.at' hb, ⟨hf.at h.span.at' hs, h.span.d1, h.span.d4⟩, h.s0.frame hf h0, h.s1.frame hf h1, h.n0, h.n1, h.ns, h.p0, h.p1, h.ap⟩
theorem HdB.below (h : HdB w b sp b0 b1 S0 S1 d lim ps0 ps1 zero least most) (hb : Below w.heap.size w w') : HdB w' b sp b0 b1 S0 S1 d lim ps0 ps1 zero least most :=
 h.frame (T := []) (Frame.of_below hb) (by simp) (by simp) (fun _ _ => by simp) (fun _ _ => by simp)
end
def Hd (w : World) (b : Nat) (S : List Nat) (d lim : Int) (ps0 ps1 : List (Int × Int)) (zero least most : Int) : Prop :=
 ∃ sp b0 b1 S0 S1, S = b :: sp :: (S0 ++ S1) ∧ HdB w b sp b0 b1 S0 S1 d lim ps0 ps1 zero least most
section
variable {w w' : World} {b : Nat} {S T : List Nat} {d lim zero least most : Int} {ps0 ps1 : List (Int × Int)}
theorem Hd.frame (h : Hd w b S d lim ps0 ps1 zero least most) (hf : Frame T w w') (hn : Apart S T) : Hd w' b S d lim ps0 ps1 zero least most := by
 obtain ⟨sp, b0, b1, S0, S1, rfl, h⟩ := h
 exact ⟨sp, b0, b1, S0, S1, rfl, h.frame hf (hn b (by simp)) (hn sp (by simp)) (fun k hk => hn k (by simp [hk])) (fun k hk => hn k (by simp [hk]))⟩
theorem Hd.below (h : Hd w b S d lim ps0 ps1 zero least most) (hb : Below w.heap.size w w') : Hd w' b S d lim ps0 ps1 zero least most := h.frame (T := []) (Frame.of_below hb) (fun _ _ => by simp)
theorem Hd.lt (h : Hd w b S d lim ps0 ps1 zero least most) : ∀ k ∈ S, k < w.heap.size := by
 obtain ⟨sp, b0, b1, S0, S1, rfl, h⟩ := h
 intro k hk
 simp only [List.mem_cons, List.mem_append] at hk
 rcases hk with rfl | rfl | hk | hk
 ·exact h.at'.lt
 ·exact h.span.at'.lt
 ·exact h.s0.lt k hk
 ·exact h.s1.lt k hk
end
structure NewJ (w wr : World) (b sp : Nat) (d lim : Int) (k : Nat) : Prop where
 span : SpanAt wr sp d
 lt : sp < b
 ge : w.heap.size ≤ sp
 bl : Below w.heap.size w wr
 st : (k = 0 ∧ At wr b #[.int .i64 d, .int .u64 lim, .pointer (some ⟨sp, 0, none⟩), .pointer none, .pointer none, .int .u64 0, .int .i64 0, .int .i64 0] 161) ∨
  (k = 1 ∧ ∃ b0, At wr b #[.int .i64 d, .int .u64 lim, .pointer (some ⟨sp, 0, none⟩), .pointer (some ⟨b0, 0, none⟩), .pointer none, .int .u64 0, .int .i64 0, .int .i64 0] 161 ∧ Strip wr b0 [b0] 4096 [] ∧ b < b0) ∨
  (k = 2 ∧ ∃ b0 b1, At wr b #[.int .i64 d, .int .u64 lim, .pointer (some ⟨sp, 0, none⟩), .pointer (some ⟨b0, 0, none⟩), .pointer (some ⟨b1, 0, none⟩), .int .u64 0, .int .i64 0, .int .i64 0] 161 ∧ Strip wr b0 [b0] 4096 [] ∧ Strip wr b1 [b1] 4096 [] ∧ b < b0 ∧ b0 < b1)
theorem NewJ.below {w wr w' : World} {b sp : Nat} {d lim : Int} {k : Nat} (h : NewJ w wr b sp d lim k) (hb : Below wr.heap.size wr w') : NewJ w w' b sp d lim k := by
 refine ⟨h.span.below hb, h.lt, h.ge, keep1 h.bl hb, ?_⟩
 rcases h.st with ⟨h1, h2⟩ | ⟨h1, b0, h2, h3, h4⟩ | ⟨h1, b0, b1, h2, h3, h4, h5⟩
 ·exact .inl ⟨h1, h2.below hb⟩
 ·exact .inr (.inl ⟨h1, b0, h2.below hb, h3.below hb, h4⟩)
 ·exact .inr (.inr ⟨h1, b0, b1, h2.below hb, h3.below hb, h4.below hb, h5⟩)
set_option maxHeartbeats 2000000 in
theorem hnew_any (d lim : Int) (w : World) (hT : TensAt w) (h1 : 1 ≤ d) (h4 : d ≤ 4) (hl : 0 ≤ lim) (hl' : lim ≤ 9223372036854775808) :
  Calls Tryz.prog 43 #[.agg #[.int .i64 d, .int .u64 lim]] w fun e w' => (∃ b S, e = .returned (.tuple #[.pointer (some ⟨b, 0, none⟩), .int .i64 0]) ∧ Within S w.heap.size w'.heap.size ∧ Hd w' b S d lim [] [] 0 0 0) ∧ Below w.heap.size w w' := by
 have HN := Lib.hid fun W (hb : Below w.heap.size w W) => spnew_any d W (hT.below hb) h1 h4
 have hd1 : decide ((9223372036854775808 : Int) < lim) = false := decide_eq_false (by omega)
 clear hT h1 h4 hl hl'
 go_enter Tryz.func43, Tryz.ntmps43
 have hb0 : Below w.heap.size w (w.alloc (.cells #[.int .i64 d, .int .u64 lim] 110)) := (Below.refl _ _).alloc (Nat.le_refl _) _
 have r2 := At.new' w #[.int .i64 d, .int .u64 lim] 110 rfl
 go_wp2_with fail
 obtain ⟨rb, hrb⟩ : ∃ r, w.heap.size = r := ⟨_, rfl⟩
 obtain ⟨W1, hW1⟩ : ∃ W1, w.alloc (.cells #[.int .i64 d, .int .u64 lim] 110) = W1 := ⟨_, rfl⟩
 have HRB := Lib.hid hrb
 rw [hW1] at hb0 r2 ⊢
 rw [hrb] at r2
 try rw [hrb]
 clear hW1 hrb
 refine (HN.out W1 hb0).mono ?_
 rintro e w2 ⟨⟨sp, rfl, hspe, hsp⟩, hb⟩
 have HB2 := Lib.hid (keep1 hb0 hb)
 have HSP := Lib.hid hsp
 have HSI : Hid (w.heap.size ≤ sp) := by have := hb0.size; show _ ≤ _; omega
 replace r2 := r2.below hb
 have f2 := r2.two
 have l2 := r2.lt
 clear hb0 hb hspe hsp HN
 have aS := At.new' w2 #[.int .i64 d, .int .u64 lim, .pointer (some ⟨sp, 0, none⟩), .pointer none, .pointer none, .int .u64 0, .int .i64 0, .int .i64 0] 161 rfl
 have hba : Below w2.heap.size w2 (w2.alloc (.cells #[.int .i64 d, .int .u64 lim, .pointer (some ⟨sp, 0, none⟩), .pointer none, .pointer none, .int .u64 0, .int .i64 0, .int .i64 0] 161)) := (Below.refl _ _).alloc (Nat.le_refl _) _
 go_wp2
 obtain ⟨b, hbe⟩ : ∃ b, w2.heap.size = b := ⟨_, rfl⟩
 have HJ : Hid (NewJ w (w2.alloc (.cells #[.int .i64 d, .int .u64 lim, .pointer (some ⟨sp, 0, none⟩), .pointer none, .pointer none, .int .u64 0, .int .i64 0, .int .i64 0] 161)) b sp d lim 0) := by
  have h1 := HSP.out.at'.lt
  refine ⟨HSP.out.below hba, by omega, HSI.out, keep1 HB2.out hba, .inl ⟨rfl, ?_⟩⟩
  rw [← hbe]; exact aS
 simp only [hbe]
 clear hbe aS hba HB2 HSP HSI f2 l2 r2
 generalize w2.alloc (.cells #[.int .i64 d, .int .u64 lim, .pointer (some ⟨sp, 0, none⟩), .pointer none, .pointer none, .int .u64 0, .int .i64 0, .int .i64 0] 161) = W3 at HJ ⊢
 go_loopw [7, 25] (fun _ i wr => ∃ k : Nat, k ≤ 2 ∧ i = .int .i64 k ∧ Hid (NewJ w wr b sp d lim k)) (fun _ i _ => 2 - (intOf i).toNat)
 case atStart => exact ⟨0, by omega, rfl, HJ⟩
 case round =>
  obtain ⟨k, hk, rfl, H⟩ := hrel
  clear HJ
  by_cases hlt : k < 2
  ·obtain ⟨p0, p1, s3⟩ : ∃ p0 p1, At wr b #[.int .i64 d, .int .u64 lim, .pointer (some ⟨sp, 0, none⟩), p0, p1, .int .u64 0, .int .i64 0, .int .i64 0] 161 := by
    rcases H.out.st with ⟨_, h⟩ | ⟨_, b0, h, _⟩ | ⟨_, b0, b1, h, _⟩
    ·exact ⟨_, _, h⟩
    ·exact ⟨_, _, h⟩
    ·exact ⟨_, _, h⟩
   have s4 := s3.drew
   have H4 : Hid (NewJ w wr.drew b sp d lim k) := H.out.below (Below.refl _ _).drew
   clear s3
   go_wp2
   obtain ⟨W4, hW4⟩ : ∃ W, wr.drew = W := ⟨_, rfl⟩
   rw [hW4] at s4 H4
   have k0 : (0 : Int) ≤ k := by omega
   have k1 : (k : Int) < 2 := by omega
   haveI : Nonempty (Held fun _ => True) := ⟨⟨W4, trivial⟩⟩
   refine wp_region_noPanic ?_
   refine wp_region_held_drew (S := HeldS fun _ => True) (by kernel_rfl) (HeldS.mk' trivial) (fun hHeld => ?_)
   rw [hW4] at hHeld ⊢
   clear hW4 H
   refine wpAnyH_run0 [true, true, false, false, false, false, true, true] 6 (by kernel_rfl) (by kernel_rfl) (fun _ _ _ _ h => h) (by kernel_rfl) hHeld ?_
   simp only [runOps_true, runOps_false, runOps_nil]
   repeat (first | go_big_quiet_skip | (go_big_quiet_want; go_big_quiet_op; go_big_quiet_on))
   refine wpQuiet_nil ?_
   refine wpAnyH_ready (rs := [2]) (by kernel_rfl) (by simp) ?_
   refine AllReadyH.cons rfl (fun K hK => ?_) AllReadyH.nil
   go_simp
   go_wp2_with (go_at_call 59; refine (snew_any 4096 W4 (by omega) (by omega)).mono ?_; rintro e w5 ⟨⟨c, rfl, hc, hS⟩, hb⟩; have hcl := Nat.le_of_eq hc.symm; clear hc)
   refine hK.out _ _ ?_ (fun hHeld => ?_)
   clear hK K
   ·exact HeldS.mk' trivial
   have H5 := Lib.hid (H4.out.below hb)
   have HCS : Hid (Strip w5 c [c] 4096 [] ∧ W4.heap.size ≤ c ∧ b < c) := ⟨hS, hcl, by have := s4.lt; omega⟩
   replace s4 := s4.below hb
   have H6 : Hid (k = 0 ∨ ∃ c0, w5.cell? ⟨b, 3, none⟩ = some (.pointer (some ⟨c0, 0, none⟩)) ∧ c0 < W4.heap.size) := by
    rcases H4.out.st with ⟨h1, h2⟩ | ⟨h1, b0, h2, h3, h4⟩ | ⟨h1, b0, b1, h2, h3, h4, h5⟩
    ·exact .inl h1
    ·exact .inr ⟨b0, (h2.below hb).cell rfl, h3.lt b0 (by simp)⟩
    ·omega
   clear hcl hS hb H4
   refine wpAnyH_run0 [false, false, false, true, true, true, false, false, true] 1 (by kernel_rfl) (by kernel_rfl) (fun _ _ _ _ h => h) (by kernel_rfl) hHeld ?_
   simp only [runOps_true, runOps_false, runOps_nil]
   repeat (first | go_big_quiet_skip | (go_big_quiet_want; go_big_quiet_op; go_big_quiet_on))
   refine wpQuiet_nil ?_
   have HN : Hid (NewJ w (w5.setCell ⟨b, 3 + k, none⟩ (.pointer (some ⟨c, 0, none⟩))) b sp d lim (k + 1)) := by
    have hne : sp ≠ b := by have := H5.out.lt; omega
    refine ⟨⟨H5.out.span.at'.set_other (p := ⟨b, 3 + k, none⟩) hne _, H5.out.span.d1, H5.out.span.d4⟩, H5.out.lt, H5.out.ge, H5.out.bl.setCell (p := ⟨b, 3 + k, none⟩) (by show w.heap.size ≤ b; have := H5.out.lt; have := H5.out.ge; omega) _, ?_⟩
    rcases H5.out.st with ⟨h1, h2⟩ | ⟨h1, b0, h2, h3, h4⟩ | ⟨h1, b0, b1, h2, h3, h4, h5⟩
    ·subst h1
     exact .inr (.inl ⟨rfl, c, h2.set_any 3 _ rfl, HCS.out.1.frame (Frame.set [b] _ b 3 _ (by simp)) (fun j hj hn => by simp at hj hn; have := HCS.out.2.2; omega), HCS.out.2.2⟩)
    ·subst h1
     have hb0 := h3.lt b0 (by simp)
     refine .inr (.inr ⟨rfl, b0, c, h2.set_any 4 _ rfl, h3.frame (Frame.set [b] _ b 4 _ (by simp)) (fun j hj hn => by simp at hj hn; omega), HCS.out.1.frame (Frame.set [b] _ b 4 _ (by simp)) (fun j hj hn => by simp at hj hn; have := HCS.out.2.2; omega), h4, ?_⟩)
     rcases H6.out with hh | ⟨c0, hh, hlt0⟩
     ·omega
     ·have e := hh.symm.trans (h2.cell (i := 3) rfl)
      simp at e
      subst e
      have := HCS.out.2.1
      omega
    ·omega
   have l4 := s4.lt
   obtain ⟨pk, hpk⟩ : ∃ pk, w5.cell? ⟨b, 3 + k, none⟩ = some pk := by
    rcases (by omega : k = 0 ∨ k = 1) with rfl | rfl
    ·exact ⟨_, s4.cell (i := 3) rfl⟩
    ·exact ⟨_, s4.cell (i := 4) rfl⟩
   have fpk := s4.frozen (3 + k)
   refine wpAnyH_ready (rs := [9]) (by kernel_rfl) (by simp) ?_
   refine AllReadyH.cons rfl (fun K hK => ?_) (AllReadyH.nil)
   go_simp
   go_wp2
   refine hK.out _ _ (HeldS.mk' trivial) (fun hHeld => ?_)
   clear hK K
   refine wpAnyH_done (by kernel_rfl) ?_ _
   refine NoPanic.normal ?_
   clear hHeld hpk fpk l4 s4
   go_wp2
   go_roundw
   case rel => exact ⟨k + 1, by omega, by simp, HN⟩
   case measure => simp [intOf]; omega
  ·obtain rfl : k = 2 := by omega
   have HE : Hid ((∃ b' S, (Ending.returned (.tuple #[.pointer (some ⟨b, 0, none⟩), .int .i64 0])) = .returned (.tuple #[.pointer (some ⟨b', 0, none⟩), .int .i64 0]) ∧ Within S w.heap.size wr.heap.size ∧ Hd wr b' S d lim [] [] 0 0 0) ∧ Below w.heap.size w wr) := by
    rcases H.out.st with ⟨h1, _⟩ | ⟨h1, _⟩ | ⟨_, b0, b1, h2, h3, h4, h5, h6⟩
    ·omega
    ·omega
    ·have g1 := H.out.lt
     have g2 := H.out.ge
     have g3 := h4.lt b1 (by simp)
     have hH : Hd wr b [b, sp, b0, b1] d lim [] [] 0 0 0 := ⟨sp, b0, b1, [b0], [b1], rfl, h2, H.out.span, h3, h4, by simp; omega, by simp; omega, by omega, by simp; omega, by simp; omega, fun j hj hn => by simp at hj hn; omega⟩
     refine ⟨⟨b, _, rfl, fun j hj => ⟨?_, hH.lt j hj⟩, hH⟩, H.out.bl⟩
     simp at hj
     omega
   clear H
   go_wp2
   go_ret2
   exact HE.out
end Go.Proofs.YtlbnlmhcpephbaaGreatDoor.Hh
namespace Go.Proofs.YtlbnlmhcpephbaaGreatDoor.Hh
open Go.RowKit
set_option maxRecDepth 100000 in
set_option maxHeartbeats 1000000 in
theorem htotal_at (b sp b0 b1 : Nat) (S0 S1 : List Nat) (d lim : Int) (ps0 ps1 : List (Int × Int)) (zero least most : Int) (w : World) (h : HdB w b sp b0 b1 S0 S1 d lim ps0 ps1 zero least most) (hz : 0 ≤ zero) (ht : sumP ps0 + zero + sumP ps1 ≤ 9223372036854775807) :
  Calls Tryz.prog 107 #[.pointer (some ⟨b, 0, none⟩)] w fun e w' => e = .returned (.int .u64 (sumP ps0 + zero + sumP ps1)) ∧ Below w.heap.size w w' := by
 have s1 := h.at'
 have p0 := sumP_nonneg (ps := ps0) h.s0.gd.pos
 have p1 := sumP_nonneg (ps := ps1) h.s1.gd.pos
 have HT0 := Lib.hid fun W (hb : Below w.heap.size w W) => (stotal_any b0 S0 4096 ps0 W (h.s0.below hb)).mono fun e w' (h : e = .returned (.int .u64 (sumP ps0)) ∧ W = w') => (⟨h.1, by rw [← h.2]; exact Below.refl _ _⟩ : e = .returned (.int .u64 (sumP ps0)) ∧ Below W.heap.size W w')
 have HT1 := Lib.hid fun W (hb : Below w.heap.size w W) => (stotal_any b1 S1 4096 ps1 W (h.s1.below hb)).mono fun e w' (h : e = .returned (.int .u64 (sumP ps1)) ∧ W = w') => (⟨h.1, by rw [← h.2]; exact Below.refl _ _⟩ : e = .returned (.int .u64 (sumP ps1)) ∧ Below W.heap.size W w')
 clear h
 obtain ⟨u, hu⟩ : ∃ u, sumP ps0 = u := ⟨_, rfl⟩
 obtain ⟨v, hv⟩ : ∃ v, sumP ps1 = v := ⟨_, rfl⟩
 rw [hu] at HT0 p0 ht
 rw [hv] at HT1 p1 ht
 rw [hu, hv]
 have HW : Hid (IntKind.u64.wrap (IntKind.u64.wrap (u + zero) + v) = u + zero + v) := by show _ = _; simp only [IntKind.wrap_u64]; omega
 have HB := Lib.hid ((Below.refl w.heap.size w).drew)
 clear hu hv p0 p1 ht hz
 go_enter Tryz.func107, Tryz.ntmps107
 go_wp2
 have hfar1 := fun x : Far w => (x.at s1).eight
 refine wp_region_far (by kernel_rfl) (by kernel_rfl) ?_
 repeat (first | go_big_quiet_skip | (go_big_quiet_want; go_big_quiet_op; first | go_big_quiet_on | (apply Exists.intro; refine ⟨fun _ => ?_, ?_⟩; (focus (first | (with_reducible refine far_of (HT0.out _ (Far.below _))) | (with_reducible refine far_of (HT1.out _ (Far.below _))))); go_big_quiet_on)))
 refine wpQuiet_nil ?_
 rintro _ ⟨xq, rfl⟩
 clear hfar1
 have hb := xq.below
 rw [HW.out]
 clear HT0 HT1
 go_wp2
 go_ret
 exact ⟨rfl, hb⟩
set_option maxRecDepth 100000 in
set_option maxHeartbeats 1000000 in
theorem hside_any (b sp b0 b1 : Nat) (S0 S1 : List Nat) (d lim : Int) (ps0 ps1 : List (Int × Int)) (zero least most x : Int) (w : World) (h : HdB w b sp b0 b1 S0 S1 d lim ps0 ps1 zero least most) (hx : x ≠ 0) (hx1 : -9223372036854775808 ≤ x) (hx2 : x ≤ 9223372036854775807) :
  Calls Tryz.prog 216 #[.pointer (some ⟨b, 0, none⟩), .int .i64 x] w fun e w' => e = .returned (.tuple #[.pointer (some ⟨if x < 0 then b0 else b1, 0, none⟩), .int .i64 (partD d x.natAbs), .bool true]) ∧ Below w.heap.size w w' := by
 have s1 := h.at'
 have HSG := Lib.hid fun W => sgof_any x W hx1 hx2
 have HIX := Lib.hid (spindex_any sp x.natAbs d w h.span (by omega) (by omega))
 have HP : Hid (((idxN (gOf d) x.natAbs : Nat) : Int) = partD d x.natAbs) := rfl
 have f1 := s1.eight
 have l1 := s1.lt
 clear h hx hx1 hx2
 by_cases hb : x < 0
 ·rw [if_pos hb]
  go_enter Tryz.func216, Tryz.ntmps216
  go_wp2_with fail
  refine (HSG.out w).mono ?_
  rintro e w1 ⟨rfl, rfl⟩
  rw [decide_eq_true hb]
  clear hb HSG
  go_wp2_with fail
  refine HIX.out.mono ?_
  rintro e w2 ⟨rfl, hb2⟩
  rw [HP.out]
  replace s1 := s1.below hb2
  have f2 := s1.eight
  have l2 := s1.lt
  clear f1 l1 HIX
  go_wp2
  go_ret3
  exact ⟨rfl, (by repeat (first | with_reducible assumption | with_reducible exact Below.refl _ _ | with_reducible refine Below.drew ?_ | with_reducible refine Below.drewN ?_ _ | with_reducible refine Below.setCell ?_ (by first | omega | (simp; done) | (simp; omega)) _ | with_reducible refine Below.alloc ?_ (by first | omega | (simp; done) | (simp; omega) | (simp [World.setCell]; omega)) _))⟩
 ·rw [if_neg hb]
  go_enter Tryz.func216, Tryz.ntmps216
  go_wp2_with fail
  refine (HSG.out w).mono ?_
  rintro e w1 ⟨rfl, rfl⟩
  rw [decide_eq_false (by omega : ¬ x < 0)]
  clear hb HSG
  go_wp2_with fail
  refine HIX.out.mono ?_
  rintro e w2 ⟨rfl, hb2⟩
  rw [HP.out]
  replace s1 := s1.below hb2
  have f2 := s1.eight
  have l2 := s1.lt
  clear f1 l1 HIX
  go_wp2
  go_ret3
  exact ⟨rfl, (by repeat (first | with_reducible assumption | with_reducible exact Below.refl _ _ | with_reducible refine Below.drew ?_ | with_reducible refine Below.drewN ?_ _ | with_reducible refine Below.setCell ?_ (by first | omega | (simp; done) | (simp; omega)) _ | with_reducible refine Below.alloc ?_ (by first | omega | (simp; done) | (simp; omega) | (simp [World.setCell]; omega)) _))⟩
set_option maxRecDepth 100000 in
set_option maxHeartbeats 1000000 in
theorem hside_zero (b sp b0 b1 : Nat) (S0 S1 : List Nat) (d lim : Int) (ps0 ps1 : List (Int × Int)) (zero least most : Int) (w : World) (h : HdB w b sp b0 b1 S0 S1 d lim ps0 ps1 zero least most) :
  Calls Tryz.prog 216 #[.pointer (some ⟨b, 0, none⟩), .int .i64 0] w fun e w' => e = .returned (.tuple #[.pointer (some ⟨b1, 0, none⟩), .int .i64 0, .bool false]) ∧ Below w.heap.size w w' := by
 have s1 := h.at'
 have HSG := Lib.hid fun W => sgof_any 0 W (by omega) (by omega)
 have HIX := Lib.hid (spindex_zero sp w)
 have f1 := s1.eight
 have l1 := s1.lt
 clear h
 go_enter Tryz.func216, Tryz.ntmps216
 go_wp2_with fail
 refine (HSG.out w).mono ?_
 rintro e w1 ⟨rfl, rfl⟩
 rw [show ((Int.natAbs 0 : Nat) : Int) = 0 from rfl, show decide ((0 : Int) < 0) = false from rfl]
 clear HSG
 go_wp2_with fail
 refine HIX.out.mono ?_
 rintro e w2 ⟨rfl, hb2⟩
 replace s1 := s1.below hb2
 have f2 := s1.eight
 have l2 := s1.lt
 clear f1 l1 HIX
 go_wp2
 go_ret3
 exact ⟨rfl, (by repeat (first | with_reducible assumption | with_reducible exact Below.refl _ _ | with_reducible refine Below.drew ?_ | with_reducible refine Below.drewN ?_ _ | with_reducible refine Below.setCell ?_ (by first | omega | (simp; done) | (simp; omega)) _ | with_reducible refine Below.alloc ?_ (by first | omega | (simp; done) | (simp; omega) | (simp [World.setCell]; omega)) _))⟩
theorem HdB.set {w : World} {b sp b0 b1 : Nat} {S0 S1 : List Nat} {d lim zero least most zero' least' most' : Int} {ps0 ps1 : List (Int × Int)} (h : HdB w b sp b0 b1 S0 S1 d lim ps0 ps1 zero least most) (i : Nat) (v : Value)
  (h1 : At (w.setCell ⟨b, i, none⟩ v) b #[.int .i64 d, .int .u64 lim, .pointer (some ⟨sp, 0, none⟩), .pointer (some ⟨b0, 0, none⟩), .pointer (some ⟨b1, 0, none⟩), .int .u64 zero', .int .i64 least', .int .i64 most'] 161) :
  HdB (w.setCell ⟨b, i, none⟩ v) b sp b0 b1 S0 S1 d lim ps0 ps1 zero' least' most' := by
 have hF := Frame.set [b] w b i v (by simp)
 refine ⟨h1, ⟨hF.at h.span.at' (fun e => h.ns (by simp at e; exact e.symm)), h.span.d1, h.span.d4⟩, h.s0.frame hF (fun k hk hn => h.n0 (by simp at hn; rwa [← hn])), h.s1.frame hF (fun k hk hn => h.n1 (by simp at hn; rwa [← hn])), h.n0, h.n1, h.ns, h.p0, h.p1, h.ap⟩
def MostW (b : Nat) (most : Int) (W : World) : Prop := W.cell? ⟨b, 7, none⟩ = some (.int .i64 most)
theorem MostW.at {b : Nat} {most : Int} {W : World} (h : MostW b most W) : W.cell? ⟨b, 7, none⟩ = some (.int .i64 most) := h
set_option maxRecDepth 100000 in
set_option maxHeartbeats 2000000 in
theorem hends_none (b sp b0 b1 : Nat) (S0 S1 : List Nat) (d lim : Int) (ps0 ps1 : List (Int × Int)) (zero least most lo hi : Int) (w : World) (h : HdB w b sp b0 b1 S0 S1 d lim ps0 ps1 zero least most) (hz : 0 ≤ zero) (h0 : sumP ps0 + zero + sumP ps1 = 0) :
  Calls Tryz.prog 218 #[.pointer (some ⟨b, 0, none⟩), .int .i64 lo, .int .i64 hi] w fun e w' => e = .returned (.tuple #[]) ∧ HdB w' b sp b0 b1 S0 S1 d lim ps0 ps1 zero lo hi ∧ Frame [b] w w' := by
 have H := Lib.hid h
 have HT := Lib.hid (htotal_at _ _ _ _ _ _ _ _ _ _ _ _ _ w h hz (by omega))
 rw [h0] at HT
 clear h hz h0
 go_enter Tryz.func218, Tryz.ntmps218
 go_wp2_with fail
 refine HT.out.mono ?_
 rintro e w1 ⟨rfl, hb⟩
 replace H := Lib.hid (H.out.below hb)
 have hF := Lib.hid (Frame.of_below (S := [b]) hb)
 have s1 := H.out.at'
 have f1 := s1.eight
 have l1 := s1.lt
 clear HT hb
 have H2 := Lib.hid (H.out.set (zero' := zero) (least' := lo) (most' := most) 6 (.int .i64 lo) (s1.set_any 6 _ rfl))
 have H3 := Lib.hid (H2.out.set (zero' := zero) (least' := lo) (most' := hi) 7 (.int .i64 hi) (H2.out.at'.set_any 7 _ rfl))
 have HF3 := Lib.hid ((hF.out.setc (b := b) (.inl (by simp)) 6 (.int .i64 lo)).setc (b := b) (.inl (by simp)) 7 (.int .i64 hi))
 go_wp2
 exact bodyPost_ret (results_none rfl _ _ _) rfl ⟨rfl, H3.out, HF3.out⟩
set_option maxRecDepth 100000 in
set_option maxHeartbeats 2000000 in
theorem hends_more (b sp b0 b1 : Nat) (S0 S1 : List Nat) (d lim : Int) (ps0 ps1 : List (Int × Int)) (zero least most lo hi : Int) (w : World) (h : HdB w b sp b0 b1 S0 S1 d lim ps0 ps1 zero least most) (hz : 0 ≤ zero) (ht : sumP ps0 + zero + sumP ps1 ≤ 9223372036854775807) (h0 : sumP ps0 + zero + sumP ps1 ≠ 0) :
  Calls Tryz.prog 218 #[.pointer (some ⟨b, 0, none⟩), .int .i64 lo, .int .i64 hi] w fun e w' => e = .returned (.tuple #[]) ∧ HdB w' b sp b0 b1 S0 S1 d lim ps0 ps1 zero (min least lo) (max most hi) ∧ Frame [b] w w' := by
 have H := Lib.hid h
 have HT := Lib.hid (htotal_at _ _ _ _ _ _ _ _ _ _ _ _ _ w h hz ht)
 have hn : (sumP ps0 + zero + sumP ps1 == 0) = false := beq_eq_false_iff_ne.2 h0
 obtain ⟨t, htt⟩ : ∃ t, sumP ps0 + zero + sumP ps1 = t := ⟨_, rfl⟩
 rw [htt] at HT hn
 clear h hz ht h0 htt
 go_enter Tryz.func218, Tryz.ntmps218
 go_wp2_with fail
 refine HT.out.mono ?_
 rintro e w1 ⟨rfl, hb⟩
 replace H := Lib.hid (H.out.below hb)
 have hF := Lib.hid (Frame.of_below (S := [b]) hb)
 clear HT hb
 go_upto_region 2 with fail
 obtain ⟨W, hW⟩ : ∃ W, w1.drew = W := ⟨_, rfl⟩
 have H1 : Hid (HdB W b sp b0 b1 S0 S1 d lim ps0 ps1 zero least most) := by show HdB _ _ _ _ _ _ _ _ _ _ _ _ _ _; rw [← hW]; exact H.out.below (Below.refl _ _).drew
 have hF1 : Hid (Frame [b] w W) := by show Frame _ _ _; rw [← hW]; exact hF.out.drew
 refine wp_region_noPanic ?_
 refine wp_region_until (S := HeldS (MostW b most)) 19 (by kernel_rfl) ?_
 rw [hW]
 clear hW H hF
 have s1 := H1.out.at'
 have H2 := Lib.hid (H1.out.set (zero' := zero) (least' := min least lo) (most' := most) 6 (.int .i64 (min least lo)) (s1.set_any 6 _ rfl))
 have H3 := Lib.hid (H2.out.set (zero' := zero) (least' := min least lo) (most' := max most hi) 7 (.int .i64 (max most hi)) (H2.out.at'.set_any 7 _ rfl))
 have HF3 := Lib.hid ((hF1.out.setc (b := b) (.inl (by simp)) 6 (.int .i64 (min least lo))).setc (b := b) (.inl (by simp)) 7 (.int .i64 (max most hi)))
 have hm1 : MostW b most W := s1.cell rfl
 have hm2 : MostW b most (W.setCell ⟨b, 6, none⟩ (.int .i64 (min least lo))) := H2.out.at'.cell rfl
 have hHeld : HeldS (MostW b most) W := HeldS.mk' hm1
 have hne : Nonempty (Held (MostW b most)) := ⟨⟨W, hm1⟩⟩
 have hfar := fun x : Held (MostW b most) => x.held.at
 have hneF : Nonempty (Held fun _ => True) := ⟨⟨W, trivial⟩⟩
 have f1 := s1.eight
 have l1 := s1.lt
 have f2 := H2.out.at'.eight
 have l2 := H2.out.at'.lt
 clear H1 hF1 H2 s1
 refine wpAnyU_run0F [true, true, true, true, true, false, true, false, true, true, true, false, true] 10 (by kernel_rfl) (by kernel_rfl) (fun _ _ _ _ h => h) (by kernel_rfl) hHeld ?_
 simp only [runOps_true, runOps_false, runOps_nil]
 repeat (first | go_big_quiet_skip | (go_big_quiet_want; go_big_quiet_op; go_big_quiet_on))
 refine wpQuiet_nil ?_
 refine wpAnyU_run0 [false, false, false, false, false, false, false, false, false, false, false, true] 9 (by kernel_rfl) (by kernel_rfl) (fun _ _ _ _ h => h) (by kernel_rfl) hHeld ?_
 simp only [runOps_true, runOps_false, runOps_nil]
 repeat (first | go_big_quiet_skip | (go_big_quiet_want; go_big_quiet_op; go_big_quiet_on))
 refine wpQuiet_nil ?_
 clear hfar hne
 refine wpAnyU_ready (rs := [5, 13]) (by kernel_rfl) (by simp) ?_
 refine AllReadyU.cons rfl (fun K hK => ?_) (AllReadyU.cons rfl (fun K hK => ?_) (AllReadyU.nil))
 ·go_simp
  go_wp2
  refine hK.out _ _ (fun _ => HeldS.mk' hm1) ?_
  clear hK K
  refine wpAnyU_ready (rs := [7, 13]) (by kernel_rfl) (by simp) ?_
  refine AllReadyU.cons rfl (fun K hK => ?_) (AllReadyU.cons rfl (fun K hK => ?_) (AllReadyU.nil))
  ·go_simp
   go_wp2
   refine hK.out _ _ (fun _ => HeldS.mk' hm1) ?_
   clear hK K
   refine wpAnyU_run0F [false, false, false, false, false, false, false, false, false, false, false, false, false, false, true, true] 5 (by kernel_rfl) (by kernel_rfl) (fun _ _ _ _ h => h) (by kernel_rfl) hHeld ?_
   simp only [runOps_true, runOps_false, runOps_nil]
   repeat (first | go_big_quiet_skip | (go_big_quiet_want; go_big_quiet_op; go_big_quiet_on))
   refine wpQuiet_nil ?_
   refine wpAnyU_ready (rs := [13, 16]) (by kernel_rfl) (by simp) ?_
   refine AllReadyU.cons rfl (fun K hK => ?_) (AllReadyU.cons rfl (fun K hK => ?_) (AllReadyU.nil))
   ·go_simp
    go_wp2
    refine hK.out _ _ (fun _ => HeldS.mk' hm1) ?_
    clear hK K
    refine wpAnyU_ready (rs := [16]) (by kernel_rfl) (by simp) ?_
    refine AllReadyU.cons rfl (fun K hK => ?_) (AllReadyU.nil)
    go_simp
    go_wp2
    refine hK.out _ _ (fun _ => HeldS.mk' hm2) ?_
    clear hK K
    replace hHeld : HeldS (MostW b most) (W.setCell ⟨b, 6, none⟩ (.int .i64 (min least lo))) := HeldS.mk' hm2
    clear f1 l1
    refine wpAnyU_run0F [false, false, false, false, false, false, false, false, false, false, false, false, false, false, false, false, false, true, true] 1 (by kernel_rfl) (by kernel_rfl) (fun _ _ _ _ h => h) (by kernel_rfl) hHeld ?_
    simp only [runOps_true, runOps_false, runOps_nil]
    repeat (first | go_big_quiet_skip | (go_big_quiet_want; go_big_quiet_op; go_big_quiet_on))
    refine wpQuiet_nil ?_
    refine wpAnyU_ready (rs := [19]) (by kernel_rfl) (by simp) ?_
    refine AllReadyU.cons rfl (fun K hK => ?_) (AllReadyU.nil)
    go_simp
    go_wp2
    refine hK.out _ _ (fun h => late_no h (by kernel_rfl)) ?_
    clear hK K
    refine wpAnyU_done (by kernel_rfl) ?_ _
    refine NoPanic.normal ?_
    clear hHeld f2 l2
    go_wp2
    exact bodyPost_end (results_none rfl _ _ _) rfl ⟨rfl, H3.out, HF3.out⟩
   ·go_simp
    go_wp2
    refine hK.out _ _ (fun _ => HeldS.mk' hm2) ?_
    clear hK K
    refine wpAnyU_ready (rs := [13]) (by kernel_rfl) (by simp) ?_
    refine AllReadyU.cons rfl (fun K hK => ?_) (AllReadyU.nil)
    go_simp
    go_wp2
    refine hK.out _ _ (fun _ => HeldS.mk' hm2) ?_
    clear hK K
    replace hHeld : HeldS (MostW b most) (W.setCell ⟨b, 6, none⟩ (.int .i64 (min least lo))) := HeldS.mk' hm2
    clear f1 l1
    refine wpAnyU_run0F [false, false, false, false, false, false, false, false, false, false, false, false, false, false, false, false, false, true, true] 1 (by kernel_rfl) (by kernel_rfl) (fun _ _ _ _ h => h) (by kernel_rfl) hHeld ?_
    simp only [runOps_true, runOps_false, runOps_nil]
    repeat (first | go_big_quiet_skip | (go_big_quiet_want; go_big_quiet_op; go_big_quiet_on))
    refine wpQuiet_nil ?_
    refine wpAnyU_ready (rs := [19]) (by kernel_rfl) (by simp) ?_
    refine AllReadyU.cons rfl (fun K hK => ?_) (AllReadyU.nil)
    go_simp
    go_wp2
    refine hK.out _ _ (fun h => late_no h (by kernel_rfl)) ?_
    clear hK K
    refine wpAnyU_done (by kernel_rfl) ?_ _
    refine NoPanic.normal ?_
    clear hHeld f2 l2
    go_wp2
    exact bodyPost_end (results_none rfl _ _ _) rfl ⟨rfl, H3.out, HF3.out⟩
  ·go_simp
   go_wp2
   refine hK.out _ _ (fun _ => HeldS.mk' hm1) ?_
   clear hK K
   refine wpAnyU_ready (rs := [7]) (by kernel_rfl) (by simp) ?_
   refine AllReadyU.cons rfl (fun K hK => ?_) (AllReadyU.nil)
   go_simp
   go_wp2
   refine hK.out _ _ (fun _ => HeldS.mk' hm1) ?_
   clear hK K
   refine wpAnyU_run0F [false, false, false, false, false, false, false, false, false, false, false, false, false, false, true, true] 4 (by kernel_rfl) (by kernel_rfl) (fun _ _ _ _ h => h) (by kernel_rfl) hHeld ?_
   simp only [runOps_true, runOps_false, runOps_nil]
   repeat (first | go_big_quiet_skip | (go_big_quiet_want; go_big_quiet_op; go_big_quiet_on))
   refine wpQuiet_nil ?_
   refine wpAnyU_ready (rs := [16]) (by kernel_rfl) (by simp) ?_
   refine AllReadyU.cons rfl (fun K hK => ?_) (AllReadyU.nil)
   go_simp
   go_wp2
   refine hK.out _ _ (fun _ => HeldS.mk' hm2) ?_
   clear hK K
   replace hHeld : HeldS (MostW b most) (W.setCell ⟨b, 6, none⟩ (.int .i64 (min least lo))) := HeldS.mk' hm2
   clear f1 l1
   refine wpAnyU_run0F [false, false, false, false, false, false, false, false, false, false, false, false, false, false, false, false, false, true, true] 1 (by kernel_rfl) (by kernel_rfl) (fun _ _ _ _ h => h) (by kernel_rfl) hHeld ?_
   simp only [runOps_true, runOps_false, runOps_nil]
   repeat (first | go_big_quiet_skip | (go_big_quiet_want; go_big_quiet_op; go_big_quiet_on))
   refine wpQuiet_nil ?_
   refine wpAnyU_ready (rs := [19]) (by kernel_rfl) (by simp) ?_
   refine AllReadyU.cons rfl (fun K hK => ?_) (AllReadyU.nil)
   go_simp
   go_wp2
   refine hK.out _ _ (fun h => late_no h (by kernel_rfl)) ?_
   clear hK K
   refine wpAnyU_done (by kernel_rfl) ?_ _
   refine NoPanic.normal ?_
   clear hHeld f2 l2
   go_wp2
   exact bodyPost_end (results_none rfl _ _ _) rfl ⟨rfl, H3.out, HF3.out⟩
 ·go_simp
  go_wp2
  refine hK.out _ _ (fun _ => HeldS.mk' hm1) ?_
  clear hK K
  refine wpAnyU_ready (rs := [5]) (by kernel_rfl) (by simp) ?_
  refine AllReadyU.cons rfl (fun K hK => ?_) (AllReadyU.nil)
  go_simp
  go_wp2
  refine hK.out _ _ (fun _ => HeldS.mk' hm1) ?_
  clear hK K
  refine wpAnyU_ready (rs := [7]) (by kernel_rfl) (by simp) ?_
  refine AllReadyU.cons rfl (fun K hK => ?_) (AllReadyU.nil)
  go_simp
  go_wp2
  refine hK.out _ _ (fun _ => HeldS.mk' hm1) ?_
  clear hK K
  refine wpAnyU_run0F [false, false, false, false, false, false, false, false, false, false, false, false, false, false, true, true] 4 (by kernel_rfl) (by kernel_rfl) (fun _ _ _ _ h => h) (by kernel_rfl) hHeld ?_
  simp only [runOps_true, runOps_false, runOps_nil]
  repeat (first | go_big_quiet_skip | (go_big_quiet_want; go_big_quiet_op; go_big_quiet_on))
  refine wpQuiet_nil ?_
  refine wpAnyU_ready (rs := [16]) (by kernel_rfl) (by simp) ?_
  refine AllReadyU.cons rfl (fun K hK => ?_) (AllReadyU.nil)
  go_simp
  go_wp2
  refine hK.out _ _ (fun _ => HeldS.mk' hm2) ?_
  clear hK K
  replace hHeld : HeldS (MostW b most) (W.setCell ⟨b, 6, none⟩ (.int .i64 (min least lo))) := HeldS.mk' hm2
  clear f1 l1
  refine wpAnyU_run0F [false, false, false, false, false, false, false, false, false, false, false, false, false, false, false, false, false, true, true] 1 (by kernel_rfl) (by kernel_rfl) (fun _ _ _ _ h => h) (by kernel_rfl) hHeld ?_
  simp only [runOps_true, runOps_false, runOps_nil]
  repeat (first | go_big_quiet_skip | (go_big_quiet_want; go_big_quiet_op; go_big_quiet_on))
  refine wpQuiet_nil ?_
  refine wpAnyU_ready (rs := [19]) (by kernel_rfl) (by simp) ?_
  refine AllReadyU.cons rfl (fun K hK => ?_) (AllReadyU.nil)
  go_simp
  go_wp2
  refine hK.out _ _ (fun h => late_no h (by kernel_rfl)) ?_
  clear hK K
  refine wpAnyU_done (by kernel_rfl) ?_ _
  refine NoPanic.normal ?_
  clear hHeld f2 l2
  go_wp2
  exact bodyPost_end (results_none rfl _ _ _) rfl ⟨rfl, H3.out, HF3.out⟩
end Go.Proofs.YtlbnlmhcpephbaaGreatDoor.Hh
namespace Go.Proofs.YtlbnlmhcpephbaaGreatDoor.Hh
open Go.RowKit
theorem rowAdd_one {ps : List (Int × Int)} {q c : Int} : (rowAdd ps q c).length ≤ ps.length + 1 := by
 unfold rowAdd
 have h1 : ∀ (l : List (Int × Int)), (l.filter fun y => decide (y.1 < q)).length + (l.filter fun y => decide (q < y.1)).length ≤ l.length := by
  intro l
  induction l with
  | nil => simp
  | cons y l ih =>
   rw [List.filter_cons, List.filter_cons, List.length_cons]
   by_cases ha : y.1 < q
   ·have hb : ¬ q < y.1 := by omega
    simp only [ha, hb, decide_true, decide_false, if_true, Bool.false_eq_true, if_false, List.length_cons]; omega
   ·by_cases hb : q < y.1
    ·simp only [ha, hb, decide_true, decide_false, if_true, Bool.false_eq_true, if_false, List.length_cons]; omega
    ·simp only [ha, hb, decide_false, Bool.false_eq_true, if_false]; omega
 have h3 := h1 ps
 rw [List.length_append, List.length_append]
 split <;> simp only [List.length_cons, List.length_nil] <;> omega
theorem partD_rng {d : Int} {m : Nat} (h1 : 0 < m) (h2 : m ≤ 9223372036854775808) : 0 < partD d m ∧ partD d m ≤ 1048576 := by
 have hg := gOf_le d
 have a := idx_pos (g := gOf d) h1
 have b := idx_le_top (g := gOf d) (by omega) h1 h2
 have c := lastI hg
 unfold partD
 omega
theorem hput_zero (b : Nat) (x : Int) (w : World) : Calls Tryz.prog 214 #[.pointer (some ⟨b, 0, none⟩), .int .i64 x, .int .u64 0] w fun e w' => e = .returned (.int .i64 1) ∧ w = w' := by
 go_enter Tryz.func214, Tryz.ntmps214
 go_wp2
 go_ret
 exact ⟨rfl, rfl⟩
set_option maxRecDepth 100000 in
set_option maxHeartbeats 1000000 in
theorem hput_range (b sp b0 b1 : Nat) (S0 S1 : List Nat) (d lim : Int) (ps0 ps1 : List (Int × Int)) (zero least most x c : Int) (w : World) (h : HdB w b sp b0 b1 S0 S1 d lim ps0 ps1 zero least most) (hx1 : -9223372036854775808 ≤ x) (hx2 : x ≤ 9223372036854775807)
  (hc : 0 < c) (hl : 0 < lim) (hr : lim < x.natAbs) :
  Calls Tryz.prog 214 #[.pointer (some ⟨b, 0, none⟩), .int .i64 x, .int .u64 c] w fun e w' => e = .returned (.int .i64 7) ∧ Below w.heap.size w w' := by
 have HSG := Lib.hid fun W => sgof_any x W hx1 hx2
 have s1 := h.at'
 have f1 := s1.eight
 have l1 := s1.lt
 have c0 : (c == 0) = false := beq_eq_false_iff_ne.2 (by omega)
 obtain ⟨m, hm⟩ : ∃ m : Int, (x.natAbs : Int) = m := ⟨_, rfl⟩
 rw [hm] at HSG hr
 clear h hx1 hx2 hc hm
 go_enter Tryz.func214, Tryz.ntmps214
 go_wp2_with fail
 refine (HSG.out w).mono ?_
 rintro e w1 ⟨rfl, rfl⟩
 clear HSG
 go_wp2
 go_ret
 exact ⟨rfl, Below.refl _ _⟩
def HputR (b : Nat) (S : List Nat) (d lim : Int) (ps0 ps1 : List (Int × Int)) (zero least most : Int) (w w' : World) : Prop :=
 ∃ S', GrownS S S' w.heap.size ∧ Hd w' b S' d lim ps0 ps1 zero least most ∧ Frame S w w'
section
variable {w w' : World} {b sp b0 b1 : Nat} {S0 S1 T : List Nat} {d lim zero least most : Int} {ps ps0 ps1 : List (Int × Int)}
theorem HdB.side0 (h : HdB w b sp b0 b1 S0 S1 d lim ps0 ps1 zero least most) (hg : GrownS S0 T w.heap.size) (hs : Strip w' b0 T 4096 ps) (hf : Frame S0 w w') : HdB w' b sp b0 b1 T S1 d lim ps ps1 zero least most := by
 have n : ∀ k, k < w.heap.size → k ∉ S0 → k ∉ T := fun k hk hn hm => by
  rcases hg k hm with h1 | h1
  ·exact hn h1
  ·omega
 exact ⟨hf.at h.at' h.n0, ⟨hf.at h.span.at' h.p0, h.span.d1, h.span.d4⟩, hs, h.s1.frame hf h.ap.symm, n _ h.at'.lt h.n0, h.n1, h.ns, n _ h.span.at'.lt h.p0, h.p1, fun k hk hm => n k (h.s1.lt k hm) (h.ap.symm k hm) hk⟩
theorem HdB.side1 (h : HdB w b sp b0 b1 S0 S1 d lim ps0 ps1 zero least most) (hg : GrownS S1 T w.heap.size) (hs : Strip w' b1 T 4096 ps) (hf : Frame S1 w w') : HdB w' b sp b0 b1 S0 T d lim ps0 ps zero least most := by
 have n : ∀ k, k < w.heap.size → k ∉ S1 → k ∉ T := fun k hk hn hm => by
  rcases hg k hm with h1 | h1
  ·exact hn h1
  ·omega
 exact ⟨hf.at h.at' h.n1, ⟨hf.at h.span.at' h.p1, h.span.d1, h.span.d4⟩, h.s0.frame hf h.ap, hs, h.n0, n _ h.at'.lt h.n1, h.ns, h.p0, n _ h.span.at'.lt h.p1, fun k hk => n k (h.s0.lt k hk) (h.ap k hk)⟩
end
theorem hends_any (b sp b0 b1 : Nat) (S0 S1 : List Nat) (d lim : Int) (ps0 ps1 : List (Int × Int)) (zero least most lo hi t : Int) (w : World) (h : HdB w b sp b0 b1 S0 S1 d lim ps0 ps1 zero least most) (hz : 0 ≤ zero) (ht : sumP ps0 + zero + sumP ps1 = t) (ht' : t ≤ 9223372036854775807) :
  Calls Tryz.prog 218 #[.pointer (some ⟨b, 0, none⟩), .int .i64 lo, .int .i64 hi] w fun e w' => e = .returned (.tuple #[]) ∧ HdB w' b sp b0 b1 S0 S1 d lim ps0 ps1 zero (if t = 0 then lo else min least lo) (if t = 0 then hi else max most hi) ∧ Frame [b] w w' := by
 subst ht
 by_cases h0 : sumP ps0 + zero + sumP ps1 = 0
 ·rw [if_pos h0, if_pos h0]; exact hends_none _ _ _ _ _ _ _ _ _ _ _ _ _ _ _ _ h hz h0
 ·rw [if_neg h0, if_neg h0]; exact hends_more _ _ _ _ _ _ _ _ _ _ _ _ _ _ _ _ h hz ht' h0
set_option maxRecDepth 100000 in
set_option maxHeartbeats 2000000 in
theorem hput_neg (b sp b0 b1 : Nat) (S0 S1 : List Nat) (d lim : Int) (ps0 ps1 : List (Int × Int)) (zero least most x c t : Int) (w : World) (h : HdB w b sp b0 b1 S0 S1 d lim ps0 ps1 zero least most) (hx1 : -9223372036854775808 ≤ x) (hx2 : x ≤ 9223372036854775807) (hx : x < 0)
  (hc : 0 < c) (hl : lim = 0 ∨ (0 < lim ∧ (x.natAbs : Int) ≤ lim)) (hz : 0 ≤ zero) (ht : sumP ps0 + zero + sumP ps1 = t) (hf : t + c ≤ 9223372036854775807) (hlen : ps0.length < 4096) :
  Calls Tryz.prog 214 #[.pointer (some ⟨b, 0, none⟩), .int .i64 x, .int .u64 c] w fun e w' => e = .returned (.int .i64 0) ∧ HputR b (b :: sp :: (S0 ++ S1)) d lim (rowAdd ps0 (partD d x.natAbs) c) ps1 zero (if t = 0 then x else min least x) (if t = 0 then x else max most x) w w' := by
 have HSG := Lib.hid fun W => sgof_any x W hx1 hx2
 have p0 := sumP_nonneg (ps := ps0) h.s0.gd.pos
 have p1 := sumP_nonneg (ps := ps1) h.s1.gd.pos
 have HT := Lib.hid (htotal_at _ _ _ _ _ _ _ _ _ _ _ _ _ w h hz (by omega))
 rw [ht] at HT
 have HSI := Lib.hid fun W (hb : Below w.heap.size w W) => hside_any _ _ _ _ _ _ _ _ _ _ _ _ _ x W (HdB.below h hb) (by omega) hx1 hx2
 rw [if_pos hx] at HSI
 have H := Lib.hid h
 have s1 := h.at'
 have f1 := s1.eight
 have l1 := s1.lt
 have c0 : (c == 0) = false := beq_eq_false_iff_ne.2 (by omega)
 obtain ⟨q, hq⟩ : ∃ q, partD d x.natAbs = q := ⟨_, rfl⟩
 have hq0 := partD_rng (d := d) (m := x.natAbs) (by omega) (by omega)
 rw [hq] at hq0 HSI
 rw [hq]
 have HQ : Hid (-9223372036854775808 ≤ q ∧ q ≤ 9223372036854775807) := ⟨by omega, by omega⟩
 have H0 : Hid (0 ≤ t ∧ t + c ≤ 9223372036854775807 ∧ 0 < c ∧ 0 ≤ zero ∧ 0 ≤ sumP ps1) := ⟨by omega, by omega, hc, hz, p1⟩
 have HTT := Lib.hid ht
 have hcnt := cnt_le_sumP (ps := ps0) h.s0.gd.pos q
 have HST : Hid (stCode 4096 ps0 q c = 0 ∧ stStep 4096 ps0 q c = rowAdd ps0 q c) := by
  have hr : stRoom 4096 ps0 q c := ⟨by omega, by have := rowAdd_one (ps := ps0) (q := q) (c := c); omega⟩
  exact ⟨by unfold stCode; rw [if_pos hc, if_pos hr], by unfold stStep; rw [if_pos ⟨hc, hr⟩]⟩
 obtain ⟨q1, q2⟩ := plus2_yes (a := t) (b := c) (by omega)
 have HP := Lib.hid (And.intro q1 q2)
 obtain ⟨m, hm⟩ : ∃ m : Int, (x.natAbs : Int) = m := ⟨_, rfl⟩
 rw [hm] at HSG hl
 have hlen4 : ¬ (4096 : Int) ≤ (ps0.length : Int) := by omega
 have HNE : Hid (cnt ps0 q ≠ 0 → (cnt ps0 q == 0) = false) := fun h => beq_eq_false_iff_ne.2 h
 obtain ⟨lo, hlo⟩ : ∃ l, (if t = 0 then x else min least x) = l := ⟨_, rfl⟩
 obtain ⟨hi, hhi⟩ : ∃ l, (if t = 0 then x else max most x) = l := ⟨_, rfl⟩
 rw [hlo, hhi]
 have HLO := Lib.hid hlo
 have HHI := Lib.hid hhi
 clear h hx hx1 hx2 hc hm hz ht hf p0 p1 q1 q2 hq0 hcnt hlen hq hlo hhi
 have HFIN : Hid (∀ w5 w6 e, Below w.heap.size w w5 → HdB w6 b sp b0 b1 S0 S1 d lim ps0 ps1 zero lo hi → Frame [b] w5 w6 → ∀ w7, SadR b0 S0 4096 ps0 q c w6 e w7 → e = .returned (.int .i64 0) ∧ HputR b (b :: sp :: (S0 ++ S1)) d lim (rowAdd ps0 q c) ps1 zero lo hi w w7) := by
  rintro w5 w6 e hb hH hF w7 ⟨rfl, T, hg, hS, hF7⟩
  rw [HST.out.1]
  rw [HST.out.2] at hS
  have hz := Nat.le_trans hb.size hF.size
  refine ⟨rfl, b :: sp :: (T ++ S1), fun k hk => ?_, ⟨_, _, _, _, _, rfl, hH.side0 hg hS hF7⟩, ((Frame.of_below hb).trans (hF.mono fun k hk => by simp at hk; simp [hk])).trans (hF7.mono fun k hk => by simp [hk])⟩
  simp only [List.mem_cons, List.mem_append] at hk ⊢
  rcases hk with rfl | rfl | hk | hk
  ·exact .inl (.inl rfl)
  ·exact .inl (.inr (.inl rfl))
  ·rcases hg k hk with h1 | h1
   ·exact .inl (.inr (.inr (.inl h1)))
   ·exact .inr (Nat.le_trans hz h1)
  ·exact .inl (.inr (.inr (.inr hk)))
 rcases hl with rfl | ⟨hl1, hl2⟩
 all_goals
  go_enter Tryz.func214, Tryz.ntmps214
  go_wp2_with fail
  refine (HSG.out w).mono ?_
  rintro e w1 ⟨rfl, rfl⟩
  clear HSG
  go_wp2_with fail
  refine HT.out.mono ?_
  rintro e w1 ⟨rfl, hb⟩
  have z1 := hb.size
  clear HT f1 l1
  go_wp2_with fail
  have a1 := At.new w1 #[.int .u64 t, .int .u64 c] 23
  refine (plus2_any w1.heap.size t c _ (by have := H0.out; omega) (by have := H0.out; omega) (by have := H0.out; omega) (by have := H0.out; omega) (a1.cell rfl) (a1.cell rfl)).mono ?_
  rintro e w2 ⟨rfl, rfl⟩
  rw [HP.out.1, HP.out.2]
  have hB2 : Below w.heap.size w (w1.alloc (.cells #[.int .u64 t, .int .u64 c] 23)) := (by repeat (first | with_reducible assumption | with_reducible exact Below.refl _ _ | with_reducible refine Below.drew ?_ | with_reducible refine Below.drewN ?_ _ | with_reducible refine Below.setCell ?_ (by first | omega | (simp; done) | (simp; omega)) _ | with_reducible refine Below.alloc ?_ (by first | omega | (simp; done) | (simp; omega) | (simp [World.setCell]; omega)) _))
  clear a1
  obtain ⟨W2, hW2⟩ : ∃ W2, w1.alloc (.cells #[.int .u64 t, .int .u64 c] 23) = W2 := ⟨_, rfl⟩
  have HB2 := Lib.hid hB2
  rw [hW2] at HB2
  try rw [hW2]
  clear hB2 hW2 hb
  go_wp2_with fail
  refine (HSI.out W2 HB2.out).mono ?_
  rintro e w3 ⟨rfl, hb3⟩
  have HB3 := Lib.hid (keep1 HB2.out hb3)
  clear HSI HB2 hb3
  go_wp2_with fail
  refine (sat_any b0 S0 4096 ps0 q w3 (H.out.s0.below HB3.out)).mono ?_
  rintro e w4 ⟨rfl, hb4⟩
  have HB4 := Lib.hid (keep1 HB3.out hb4)
  clear HB3 hb4
  have HEND := Lib.hid fun W (hb : Below w.heap.size w W) => hends_any _ _ _ _ _ _ _ _ _ _ _ _ _ x x t W (HdB.below H.out hb) H0.out.2.2.2.1 HTT.out (by have := H0.out; omega)
  rw [HLO.out, HHI.out] at HEND
  clear HLO HHI
  by_cases hcz : cnt ps0 q = 0
  ·rw [hcz]
   clear hcz HNE
   go_wp2_with fail
   refine (slen_any b0 S0 4096 ps0 w4 (H.out.s0.below HB4.out)).mono ?_
   rintro e w5 ⟨rfl, rfl⟩
   go_wp2_with fail
   refine (HEND.out w4 HB4.out).mono ?_
   rintro e w6 ⟨rfl, hH, hF⟩
   have HH6 := Lib.hid hH
   have HF6 := Lib.hid hF
   clear hH hF HEND
   go_wp2_with fail
   refine (sadd_any b0 S0 4096 ps0 q c w6 HH6.out.s0 (by have := H0.out; omega) (by have := H0.out; omega) HQ.out).mono ?_
   rintro e w7 hR
   obtain ⟨rfl, hFN⟩ := HFIN.out w4 w6 e HB4.out HH6.out HF6.out w7 hR
   clear hR HFIN
   go_wp2
   go_ret
   exact ⟨rfl, hFN⟩
  ·have hcz' := HNE.out hcz
   obtain ⟨cn, hcn⟩ : ∃ n, cnt ps0 q = n := ⟨_, rfl⟩
   rw [hcn] at hcz' ⊢
   clear hcz HNE hcn hlen4
   go_wp2_with fail
   refine (HEND.out w4 HB4.out).mono ?_
   rintro e w6 ⟨rfl, hH, hF⟩
   have HH6 := Lib.hid hH
   have HF6 := Lib.hid hF
   clear hH hF HEND
   go_wp2_with fail
   refine (sadd_any b0 S0 4096 ps0 q c w6 HH6.out.s0 (by have := H0.out; omega) (by have := H0.out; omega) HQ.out).mono ?_
   rintro e w7 hR
   obtain ⟨rfl, hFN⟩ := HFIN.out w4 w6 e HB4.out HH6.out HF6.out w7 hR
   clear hR HFIN
   go_wp2
   go_ret
   exact ⟨rfl, hFN⟩
set_option maxRecDepth 100000 in
set_option maxHeartbeats 2000000 in
theorem hput_pos (b sp b0 b1 : Nat) (S0 S1 : List Nat) (d lim : Int) (ps0 ps1 : List (Int × Int)) (zero least most x c t : Int) (w : World) (h : HdB w b sp b0 b1 S0 S1 d lim ps0 ps1 zero least most) (hx1 : -9223372036854775808 ≤ x) (hx2 : x ≤ 9223372036854775807) (hx : 0 < x)
  (hc : 0 < c) (hl : lim = 0 ∨ (0 < lim ∧ (x.natAbs : Int) ≤ lim)) (hz : 0 ≤ zero) (ht : sumP ps0 + zero + sumP ps1 = t) (hf : t + c ≤ 9223372036854775807) (hlen : ps1.length < 4096) :
  Calls Tryz.prog 214 #[.pointer (some ⟨b, 0, none⟩), .int .i64 x, .int .u64 c] w fun e w' => e = .returned (.int .i64 0) ∧ HputR b (b :: sp :: (S0 ++ S1)) d lim ps0 (rowAdd ps1 (partD d x.natAbs) c) zero (if t = 0 then x else min least x) (if t = 0 then x else max most x) w w' := by
 have HSG := Lib.hid fun W => sgof_any x W hx1 hx2
 have p0 := sumP_nonneg (ps := ps0) h.s0.gd.pos
 have p1 := sumP_nonneg (ps := ps1) h.s1.gd.pos
 have HT := Lib.hid (htotal_at _ _ _ _ _ _ _ _ _ _ _ _ _ w h hz (by omega))
 rw [ht] at HT
 have HSI := Lib.hid fun W (hb : Below w.heap.size w W) => hside_any _ _ _ _ _ _ _ _ _ _ _ _ _ x W (HdB.below h hb) (by omega) hx1 hx2
 rw [if_neg (by omega : ¬ x < 0)] at HSI
 have H := Lib.hid h
 have s1 := h.at'
 have f1 := s1.eight
 have l1 := s1.lt
 have c0 : (c == 0) = false := beq_eq_false_iff_ne.2 (by omega)
 obtain ⟨q, hq⟩ : ∃ q, partD d x.natAbs = q := ⟨_, rfl⟩
 have hq0 := partD_rng (d := d) (m := x.natAbs) (by omega) (by omega)
 rw [hq] at hq0 HSI
 rw [hq]
 have HQ : Hid (-9223372036854775808 ≤ q ∧ q ≤ 9223372036854775807) := ⟨by omega, by omega⟩
 have H0 : Hid (0 ≤ t ∧ t + c ≤ 9223372036854775807 ∧ 0 < c ∧ 0 ≤ zero ∧ 0 ≤ sumP ps0) := ⟨by omega, by omega, hc, hz, p0⟩
 have HTT := Lib.hid ht
 have hcnt := cnt_le_sumP (ps := ps1) h.s1.gd.pos q
 have HST : Hid (stCode 4096 ps1 q c = 0 ∧ stStep 4096 ps1 q c = rowAdd ps1 q c) := by
  have hr : stRoom 4096 ps1 q c := ⟨by omega, by have := rowAdd_one (ps := ps1) (q := q) (c := c); omega⟩
  exact ⟨by unfold stCode; rw [if_pos hc, if_pos hr], by unfold stStep; rw [if_pos ⟨hc, hr⟩]⟩
 obtain ⟨q1, q2⟩ := plus2_yes (a := t) (b := c) (by omega)
 have HP := Lib.hid (And.intro q1 q2)
 obtain ⟨m, hm⟩ : ∃ m : Int, (x.natAbs : Int) = m := ⟨_, rfl⟩
 rw [hm] at HSG hl
 have hlen4 : ¬ (4096 : Int) ≤ (ps1.length : Int) := by omega
 have HNE : Hid (cnt ps1 q ≠ 0 → (cnt ps1 q == 0) = false) := fun h => beq_eq_false_iff_ne.2 h
 obtain ⟨lo, hlo⟩ : ∃ l, (if t = 0 then x else min least x) = l := ⟨_, rfl⟩
 obtain ⟨hi, hhi⟩ : ∃ l, (if t = 0 then x else max most x) = l := ⟨_, rfl⟩
 rw [hlo, hhi]
 have HLO := Lib.hid hlo
 have HHI := Lib.hid hhi
 clear h hx hx1 hx2 hc hm hz ht hf p0 p1 q1 q2 hq0 hcnt hlen hq hlo hhi
 have HFIN : Hid (∀ w5 w6 e, Below w.heap.size w w5 → HdB w6 b sp b0 b1 S0 S1 d lim ps0 ps1 zero lo hi → Frame [b] w5 w6 → ∀ w7, SadR b1 S1 4096 ps1 q c w6 e w7 → e = .returned (.int .i64 0) ∧ HputR b (b :: sp :: (S0 ++ S1)) d lim ps0 (rowAdd ps1 q c) zero lo hi w w7) := by
  rintro w5 w6 e hb hH hF w7 ⟨rfl, T, hg, hS, hF7⟩
  rw [HST.out.1]
  rw [HST.out.2] at hS
  have hz := Nat.le_trans hb.size hF.size
  refine ⟨rfl, b :: sp :: (S0 ++ T), fun k hk => ?_, ⟨_, _, _, _, _, rfl, hH.side1 hg hS hF7⟩, ((Frame.of_below hb).trans (hF.mono fun k hk => by simp at hk; simp [hk])).trans (hF7.mono fun k hk => by simp [hk])⟩
  simp only [List.mem_cons, List.mem_append] at hk ⊢
  rcases hk with rfl | rfl | hk | hk
  ·exact .inl (.inl rfl)
  ·exact .inl (.inr (.inl rfl))
  ·exact .inl (.inr (.inr (.inl hk)))
  ·rcases hg k hk with h1 | h1
   ·exact .inl (.inr (.inr (.inr h1)))
   ·exact .inr (Nat.le_trans hz h1)
 rcases hl with rfl | ⟨hl1, hl2⟩
 all_goals
  go_enter Tryz.func214, Tryz.ntmps214
  go_wp2_with fail
  refine (HSG.out w).mono ?_
  rintro e w1 ⟨rfl, rfl⟩
  clear HSG
  go_wp2_with fail
  refine HT.out.mono ?_
  rintro e w1 ⟨rfl, hb⟩
  have z1 := hb.size
  clear HT f1 l1
  go_wp2_with fail
  have a1 := At.new w1 #[.int .u64 t, .int .u64 c] 23
  refine (plus2_any w1.heap.size t c _ (by have := H0.out; omega) (by have := H0.out; omega) (by have := H0.out; omega) (by have := H0.out; omega) (a1.cell rfl) (a1.cell rfl)).mono ?_
  rintro e w2 ⟨rfl, rfl⟩
  rw [HP.out.1, HP.out.2]
  have hB2 : Below w.heap.size w (w1.alloc (.cells #[.int .u64 t, .int .u64 c] 23)) := (by repeat (first | with_reducible assumption | with_reducible exact Below.refl _ _ | with_reducible refine Below.drew ?_ | with_reducible refine Below.drewN ?_ _ | with_reducible refine Below.setCell ?_ (by first | omega | (simp; done) | (simp; omega)) _ | with_reducible refine Below.alloc ?_ (by first | omega | (simp; done) | (simp; omega) | (simp [World.setCell]; omega)) _))
  clear a1
  obtain ⟨W2, hW2⟩ : ∃ W2, w1.alloc (.cells #[.int .u64 t, .int .u64 c] 23) = W2 := ⟨_, rfl⟩
  have HB2 := Lib.hid hB2
  rw [hW2] at HB2
  try rw [hW2]
  clear hB2 hW2 hb
  go_wp2_with fail
  refine (HSI.out W2 HB2.out).mono ?_
  rintro e w3 ⟨rfl, hb3⟩
  have HB3 := Lib.hid (keep1 HB2.out hb3)
  clear HSI HB2 hb3
  go_wp2_with fail
  refine (sat_any b1 S1 4096 ps1 q w3 (H.out.s1.below HB3.out)).mono ?_
  rintro e w4 ⟨rfl, hb4⟩
  have HB4 := Lib.hid (keep1 HB3.out hb4)
  clear HB3 hb4
  have HEND := Lib.hid fun W (hb : Below w.heap.size w W) => hends_any _ _ _ _ _ _ _ _ _ _ _ _ _ x x t W (HdB.below H.out hb) H0.out.2.2.2.1 HTT.out (by have := H0.out; omega)
  rw [HLO.out, HHI.out] at HEND
  clear HLO HHI
  by_cases hcz : cnt ps1 q = 0
  ·rw [hcz]
   clear hcz HNE
   go_wp2_with fail
   refine (slen_any b1 S1 4096 ps1 w4 (H.out.s1.below HB4.out)).mono ?_
   rintro e w5 ⟨rfl, rfl⟩
   go_wp2_with fail
   refine (HEND.out w4 HB4.out).mono ?_
   rintro e w6 ⟨rfl, hH, hF⟩
   have HH6 := Lib.hid hH
   have HF6 := Lib.hid hF
   clear hH hF HEND
   go_wp2_with fail
   refine (sadd_any b1 S1 4096 ps1 q c w6 HH6.out.s1 (by have := H0.out; omega) (by have := H0.out; omega) HQ.out).mono ?_
   rintro e w7 hR
   obtain ⟨rfl, hFN⟩ := HFIN.out w4 w6 e HB4.out HH6.out HF6.out w7 hR
   clear hR HFIN
   go_wp2
   go_ret
   exact ⟨rfl, hFN⟩
  ·have hcz' := HNE.out hcz
   obtain ⟨cn, hcn⟩ : ∃ n, cnt ps1 q = n := ⟨_, rfl⟩
   rw [hcn] at hcz' ⊢
   clear hcz HNE hcn hlen4
   go_wp2_with fail
   refine (HEND.out w4 HB4.out).mono ?_
   rintro e w6 ⟨rfl, hH, hF⟩
   have HH6 := Lib.hid hH
   have HF6 := Lib.hid hF
   clear hH hF HEND
   go_wp2_with fail
   refine (sadd_any b1 S1 4096 ps1 q c w6 HH6.out.s1 (by have := H0.out; omega) (by have := H0.out; omega) HQ.out).mono ?_
   rintro e w7 hR
   obtain ⟨rfl, hFN⟩ := HFIN.out w4 w6 e HB4.out HH6.out HF6.out w7 hR
   clear hR HFIN
   go_wp2
   go_ret
   exact ⟨rfl, hFN⟩
set_option maxRecDepth 100000 in
set_option maxHeartbeats 2000000 in
theorem hput_nought (b sp b0 b1 : Nat) (S0 S1 : List Nat) (d lim : Int) (ps0 ps1 : List (Int × Int)) (zero least most c t : Int) (w : World) (h : HdB w b sp b0 b1 S0 S1 d lim ps0 ps1 zero least most)
  (hc : 0 < c) (hl : 0 ≤ lim) (hz : 0 ≤ zero) (ht : sumP ps0 + zero + sumP ps1 = t) (hf : t + c ≤ 9223372036854775807) :
  Calls Tryz.prog 214 #[.pointer (some ⟨b, 0, none⟩), .int .i64 0, .int .u64 c] w fun e w' => e = .returned (.int .i64 0) ∧ HputR b (b :: sp :: (S0 ++ S1)) d lim ps0 ps1 (zero + c) (if t = 0 then 0 else min least 0) (if t = 0 then 0 else max most 0) w w' := by
 have HSG := Lib.hid fun W => sgof_any 0 W (by omega) (by omega)
 have p0 := sumP_nonneg (ps := ps0) h.s0.gd.pos
 have p1 := sumP_nonneg (ps := ps1) h.s1.gd.pos
 have HT := Lib.hid (htotal_at _ _ _ _ _ _ _ _ _ _ _ _ _ w h hz (by omega))
 rw [ht] at HT
 have HSI := Lib.hid fun W (hb : Below w.heap.size w W) => hside_zero _ _ _ _ _ _ _ _ _ _ _ _ _ W (HdB.below h hb)
 have H := Lib.hid h
 have s1 := h.at'
 have f1 := s1.eight
 have l1 := s1.lt
 have c0 : (c == 0) = false := beq_eq_false_iff_ne.2 (by omega)
 have H0 : Hid (0 ≤ t ∧ t + c ≤ 9223372036854775807 ∧ 0 < c ∧ 0 ≤ zero) := ⟨by omega, by omega, hc, hz⟩
 have HTT := Lib.hid ht
 have HW : Hid (IntKind.u64.wrap (zero + c) = zero + c) := by show _ = _; simp only [IntKind.wrap_u64]; omega
 obtain ⟨q1, q2⟩ := plus2_yes (a := t) (b := c) (by omega)
 have HP := Lib.hid (And.intro q1 q2)
 obtain ⟨lo, hlo⟩ : ∃ l, (if t = 0 then 0 else min least 0) = l := ⟨_, rfl⟩
 obtain ⟨hi, hhi⟩ : ∃ l, (if t = 0 then 0 else max most 0) = l := ⟨_, rfl⟩
 rw [hlo, hhi]
 have HLO := Lib.hid hlo
 have HHI := Lib.hid hhi
 have hln : (decide (0 < lim) = true → decide (lim < 0) = false) := fun _ => decide_eq_false (by omega)
 have hln' : decide (lim < 0) = false := decide_eq_false (by omega)
 clear h hc hz ht hf p0 p1 q1 q2 hlo hhi hln
 rcases (by omega : lim = 0 ∨ 0 < lim) with rfl | hl1
 all_goals
  go_enter Tryz.func214, Tryz.ntmps214
  go_wp2_with fail
  refine (HSG.out w).mono ?_
  rintro e w1 ⟨rfl, rfl⟩
  rw [show ((Int.natAbs 0 : Nat) : Int) = 0 from rfl, show decide ((0 : Int) < 0) = false from rfl]
  clear HSG
  go_wp2_with fail
  refine HT.out.mono ?_
  rintro e w1 ⟨rfl, hb⟩
  have z1 := hb.size
  clear HT f1 l1
  go_wp2_with fail
  have a1 := At.new w1 #[.int .u64 t, .int .u64 c] 23
  refine (plus2_any w1.heap.size t c _ (by have := H0.out; omega) (by have := H0.out; omega) (by have := H0.out; omega) (by have := H0.out; omega) (a1.cell rfl) (a1.cell rfl)).mono ?_
  rintro e w2 ⟨rfl, rfl⟩
  rw [HP.out.1, HP.out.2]
  have hB2 : Below w.heap.size w (w1.alloc (.cells #[.int .u64 t, .int .u64 c] 23)) := (by repeat (first | with_reducible assumption | with_reducible exact Below.refl _ _ | with_reducible refine Below.drew ?_ | with_reducible refine Below.drewN ?_ _ | with_reducible refine Below.setCell ?_ (by first | omega | (simp; done) | (simp; omega)) _ | with_reducible refine Below.alloc ?_ (by first | omega | (simp; done) | (simp; omega) | (simp [World.setCell]; omega)) _))
  clear a1
  obtain ⟨W2, hW2⟩ : ∃ W2, w1.alloc (.cells #[.int .u64 t, .int .u64 c] 23) = W2 := ⟨_, rfl⟩
  have HB2 := Lib.hid hB2
  rw [hW2] at HB2
  try rw [hW2]
  clear hB2 hW2 hb
  go_wp2_with fail
  refine (HSI.out W2 HB2.out).mono ?_
  rintro e w3 ⟨rfl, hb3⟩
  have HB3 := Lib.hid (keep1 HB2.out hb3)
  clear HSI HB2 hb3
  have HEND := Lib.hid fun W (hb : Below w.heap.size w W) => hends_any _ _ _ _ _ _ _ _ _ _ _ _ _ 0 0 t W (HdB.below H.out hb) H0.out.2.2.2 HTT.out (by have := H0.out; omega)
  rw [HLO.out, HHI.out] at HEND
  go_wp2_with fail
  refine (HEND.out w3 HB3.out).mono ?_
  rintro e w6 ⟨rfl, hH, hF⟩
  have hH7 := hH.set (zero' := zero + c) (least' := lo) (most' := hi) 5 (.int .u64 (zero + c)) (hH.at'.set_any 5 _ rfl)
  have hR : HputR b (b :: sp :: (S0 ++ S1)) d _ ps0 ps1 (zero + c) lo hi w (w6.setCell ⟨b, 5, none⟩ (.int .u64 (zero + c))) :=
   ⟨_, GrownS.refl _ _, ⟨_, _, _, _, _, rfl, hH7⟩, ((Frame.of_below HB3.out).trans (hF.mono fun k hk => by simp at hk; simp [hk])).setc (.inl (by simp)) 5 _⟩
  have HR := Lib.hid hR
  have f6 := hH.at'.eight
  have l6 := hH.at'.lt
  clear hH hF HEND hR hH7
  go_wp2
  rw [HW.out]
  go_ret
  exact ⟨rfl, HR.out⟩
end Go.Proofs.YtlbnlmhcpephbaaGreatDoor.Hh
namespace Go.Proofs.YtlbnlmhcpephbaaGreatDoor.Hh
open Go.RowKit
structure VOk (l : List (Int × Int)) : Prop where
 ok : okP l
 pos : ∀ v ∈ l, 0 < v.2
 sum : sumP l ≤ 9223372036854775807
theorem VOk.nil : VOk [] := ⟨fun x hx => by simp at hx, fun x hx => by simp at hx, by rw [sumP_nil]; omega⟩
theorem VOk.sum0 {l : List (Int × Int)} (h : VOk l) : 0 ≤ sumP l := sumP_nonneg h.pos
theorem VOk.snoc {l : List (Int × Int)} (h : VOk l) {x c : Int} (hx : -9223372036854775808 ≤ x ∧ x ≤ 9223372036854775807) (hc : 0 < c) (hs : sumP l + c ≤ 9223372036854775807) : VOk (l ++ [(x, c)]) := by
 have h0 := h.sum0
 refine ⟨fun v hv => ?_, fun v hv => ?_, ?_⟩
 ·rcases List.mem_append.1 hv with h1 | h1
  ·exact h.ok v h1
  ·rw [List.mem_singleton] at h1; subst h1; exact ⟨hx, by dsimp only; omega, by dsimp only; omega⟩
 ·rcases List.mem_append.1 hv with h1 | h1
  ·exact h.pos v h1
  ·rw [List.mem_singleton] at h1; subst h1; exact hc
 ·rw [sumP_append, sumP_cons, sumP_nil]; dsimp only; omega
theorem VOk.total {l : List (Int × Int)} {part : Nat → Int} (h : VOk l) : sumP (rowV part true l) + zeroV l + sumP (rowV part false l) = sumP l ∧ 0 ≤ zeroV l := by
 have hs := h.sum
 rw [negV_row h.pos (by omega), posV_row h.pos (by omega), sum_three l]
 exact ⟨rfl, sumP_nonneg fun v hv => h.pos v (List.mem_filter.1 hv).1⟩
theorem VOk.empty {l : List (Int × Int)} (h : VOk l) : sumP l = 0 ↔ l = [] := by
 constructor
 ·intro h0
  cases l with
  | nil => rfl
  | cons v l =>
   have h1 := h.pos v (by simp)
   have h2 := sumP_nonneg (ps := l) fun u hu => h.pos u (by simp [hu])
   rw [sumP_cons] at h0
   omega
 ·rintro rfl; rfl
theorem eLow_snoc {l : List (Int × Int)} (h : VOk l) (x c : Int) : eLow (l ++ [(x, c)]) = (if sumP l = 0 then x else min (eLow l) x) ∧ eHigh (l ++ [(x, c)]) = (if sumP l = 0 then x else max (eHigh l) x) := by
 by_cases h0 : l = []
 ·subst h0
  rw [if_pos sumP_nil, if_pos sumP_nil]
  unfold eLow eHigh lowV highV
  simp
 ·have hl : l.length ≠ 0 := fun e => h0 (List.eq_nil_of_length_eq_zero e)
  rw [if_neg fun e => h0 (h.empty.1 e), if_neg fun e => h0 (h.empty.1 e)]
  have hh : (l ++ [(x, c)]).headD (0, 0) = l.headD (0, 0) := by
   cases l with
   | nil => exact absurd rfl h0
   | cons v l => rfl
  unfold eLow eHigh
  rw [if_neg hl, if_neg hl, if_neg (by simp), if_neg (by simp), hh, lowV_append, highV_append]
  exact ⟨rfl, rfl⟩
theorem zeroV_snoc {l : List (Int × Int)} (x c : Int) : zeroV (l ++ [(x, c)]) = if x = 0 then zeroV l + c else zeroV l := by
 unfold zeroV
 rw [List.filter_append, sumP_append]
 by_cases hx : x = 0
 ·rw [if_pos hx, List.filter_cons_of_pos (by simpa using hx), List.filter_nil, sumP_cons, sumP_nil]; dsimp only; omega
 ·rw [if_neg hx, List.filter_cons_of_neg (by simpa using hx), List.filter_nil, sumP_nil]; omega
def HdV (w : World) (b : Nat) (S : List Nat) (d lim : Int) (l : List (Int × Int)) : Prop := Hd w b S d lim (rowV (partD d) true l) (rowV (partD d) false l) (zeroV l) (eLow l) (eHigh l)
section
variable {w w' : World} {b : Nat} {S T : List Nat} {d lim : Int} {l : List (Int × Int)}
theorem HdV.frame (h : HdV w b S d lim l) (hf : Frame T w w') (hn : Apart S T) : HdV w' b S d lim l := Hd.frame h hf hn
theorem HdV.below (h : HdV w b S d lim l) (hb : Below w.heap.size w w') : HdV w' b S d lim l := Hd.below h hb
theorem HdV.lt (h : HdV w b S d lim l) : ∀ k ∈ S, k < w.heap.size := Hd.lt h
end
theorem htotal_v (b : Nat) (S : List Nat) (d lim : Int) (l : List (Int × Int)) (w : World) (h : HdV w b S d lim l) (hv : VOk l) :
  Calls Tryz.prog 107 #[.pointer (some ⟨b, 0, none⟩)] w fun e w' => e = .returned (.int .u64 (sumP l)) ∧ Below w.heap.size w w' := by
 obtain ⟨sp, b0, b1, S0, S1, rfl, h⟩ := h
 obtain ⟨t1, t2⟩ := hv.total (part := partD d)
 have := hv.sum
 refine (htotal_at _ _ _ _ _ _ _ _ _ _ _ _ _ w h t2 (by omega)).mono fun e w' hR => ?_
 rw [t1] at hR
 exact hR
def HpvR (b : Nat) (S : List Nat) (d lim : Int) (l : List (Int × Int)) (w w' : World) : Prop := ∃ S', GrownS S S' w.heap.size ∧ HdV w' b S' d lim l ∧ Frame S w w'
theorem hput_v (b : Nat) (S : List Nat) (d lim x c : Int) (l : List (Int × Int)) (w : World) (h : HdV w b S d lim l) (hv : VOk l) (hx : -9223372036854775808 ≤ x ∧ x ≤ 9223372036854775807) (hc : 0 < c) (hs : sumP l + c ≤ 9223372036854775807)
  (hl : lim = 0 ∨ (0 < lim ∧ (x.natAbs : Int) ≤ lim)) (hn : l.length < 4096) :
  Calls Tryz.prog 214 #[.pointer (some ⟨b, 0, none⟩), .int .i64 x, .int .u64 c] w fun e w' => e = .returned (.int .i64 0) ∧ HpvR b S d lim (l ++ [(x, c)]) w w' := by
 obtain ⟨sp, b0, b1, S0, S1, rfl, h⟩ := h
 obtain ⟨t1, t2⟩ := hv.total (part := partD d)
 have l0 := rowV_len (part := partD d) (below := true) (l := l)
 have l1 := rowV_len (part := partD d) (below := false) (l := l)
 obtain ⟨e1, e2⟩ := eLow_snoc hv x c
 have e3 := zeroV_snoc (l := l) x c
 have e4 := rowV_snoc (part := partD d) (below := true) (l := l) (x, c)
 have e5 := rowV_snoc (part := partD d) (below := false) (l := l) (x, c)
 rw [sgn_true] at e4
 rw [sgn_false] at e5
 dsimp only at e4 e5
 unfold HpvR HdV
 rw [e1, e2, e3, e4, e5]
 rcases Int.lt_trichotomy x 0 with h1 | rfl | h1
 ·rw [if_neg (by omega : ¬ x = 0), if_pos (decide_eq_true h1), if_neg (by simp; omega)]
  exact hput_neg _ _ _ _ _ _ _ _ _ _ _ _ _ _ _ _ w h hx.1 hx.2 h1 hc hl t2 t1 hs (by omega)
 ·rw [if_pos rfl, if_neg (by simp), if_neg (by simp)]
  exact hput_nought _ _ _ _ _ _ _ _ _ _ _ _ _ _ _ w h hc (by omega) t2 t1 hs
 ·rw [if_neg (by omega : ¬ x = 0), if_neg (by simp; omega), if_pos (decide_eq_true h1)]
  exact hput_pos _ _ _ _ _ _ _ _ _ _ _ _ _ _ _ _ w h hx.1 hx.2 h1 hc hl t2 t1 hs (by omega)
theorem hput_vrange (b : Nat) (S : List Nat) (d lim x c : Int) (l : List (Int × Int)) (w : World) (h : HdV w b S d lim l) (hx : -9223372036854775808 ≤ x ∧ x ≤ 9223372036854775807) (hc : 0 < c) (hl : 0 < lim) (hr : lim < x.natAbs) :
  Calls Tryz.prog 214 #[.pointer (some ⟨b, 0, none⟩), .int .i64 x, .int .u64 c] w fun e w' => e = .returned (.int .i64 7) ∧ Below w.heap.size w w' := by
 obtain ⟨sp, b0, b1, S0, S1, rfl, h⟩ := h
 exact hput_range _ _ _ _ _ _ _ _ _ _ _ _ _ _ _ w h hx.1 hx.2 hc hl hr
end Go.Proofs.YtlbnlmhcpephbaaGreatDoor.Hh
namespace Go.Proofs.YtlbnlmhcpephbaaGreatDoor.Hh
open Go.RowKit
theorem partD_mono (d : Int) : PartMono (partD d) := fun a b ha hab hb => by
 have := idx_mono (g := gOf d) ha hab
 unfold partD
 omega
theorem repI_idx {g m : Nat} (h : 0 < m) : repI g (idxN g m) = repM g m := by unfold repI repM; rw [loI_idx h, hiI_idx h]
theorem repM_le {g m : Nat} (h : 0 < m) (h2 : m ≤ 9223372036854775808) : loN g m ≤ repM g m ∧ repM g m ≤ hiN g m := by
 have := lo_le_hi (g := g) h h2
 unfold repM; omega
theorem wrap_in {z : Int} (h : 0 ≤ z ∧ z < 18446744073709551616) : IntKind.u64.wrap z = z := by simp only [IntKind.wrap_u64]; omega
set_option maxRecDepth 100000 in
set_option maxHeartbeats 2000000 in
theorem hfind_v (b sp b0 b1 : Nat) (S0 S1 : List Nat) (d lim : Int) (lo hi : Int) (l : List (Int × Int)) (t x : Int) (w : World) (h : HdB w b sp b0 b1 S0 S1 d lim (rowV (partD d) true l) (rowV (partD d) false l) (zeroV l) lo hi) (hv : VOk l) (hx : IsExact l t x) (h1 : 1 ≤ t) (h2 : t ≤ sumP l) :
  Calls Tryz.prog 219 #[.pointer (some ⟨b, 0, none⟩), .int .u64 t] w fun e w' => e = .returned (.int .i64 (standV (repM (gOf d)) x)) ∧ Below w.heap.size w w' := by
 have hs := hv.sum
 obtain ⟨v, hvm, hvx⟩ := hx.mem
 have hxr := (hv.ok v hvm).1
 rw [hvx] at hxr
 have hneg := negV_row (part := partD d) hv.pos (by omega)
 have hpos := posV_row (part := partD d) hv.pos (by omega)
 have hth := sum_three l
 have n0 : 0 ≤ negV l := sumP_nonneg fun v hh => hv.pos v (List.mem_filter.1 hh).1
 have z0 : 0 ≤ zeroV l := sumP_nonneg fun v hh => hv.pos v (List.mem_filter.1 hh).1
 have q0 : 0 ≤ posV l := sumP_nonneg fun v hh => hv.pos v (List.mem_filter.1 hh).1
 have s1 := h.at'
 have HT := Lib.hid (stotal_any b0 S0 4096 _ w h.s0)
 rw [hneg] at HT
 have HF0 := Lib.hid fun (u : Int) (hu : 0 ≤ u ∧ u < 18446744073709551616) W (hb : Below w.heap.size w W) => sfind_any b0 S0 4096 (rowV (partD d) true l) u W (h.s0.below hb) hu
 have HF1 := Lib.hid fun (u : Int) (hu : 0 ≤ u ∧ u < 18446744073709551616) W (hb : Below w.heap.size w W) => (sfind_any b1 S1 4096 (rowV (partD d) false l) u W (h.s1.below hb) hu).mono fun e w' (hR : e = .returned (optI (findP u 0 (rowV (partD d) false l))) ∧ W = w') => (⟨hR.1, by rw [← hR.2]; exact Below.refl _ _⟩ : e = .returned (optI (findP u 0 (rowV (partD d) false l))) ∧ Below W.heap.size W w')
 have HRP := Lib.hid fun (i : Nat) W (hb : Below w.heap.size w W) => sprep_any sp i d W (h.span.below hb)
 rcases Int.lt_trichotomy x 0 with hlt | rfl | hgt
 ·obtain ⟨k1, k2⟩ := exact_neg (partD_mono d) hv.ok hv.pos (by omega) hx hlt h1
  have a0 : 0 < x.natAbs := by omega
  have a1 : x.natAbs ≤ 9223372036854775808 := by omega
  have hr := repM_le (g := gOf d) a0 a1
  have hh := hi_le (gOf d) x.natAbs
  have HST : Hid (standV (repM (gOf d)) x = -(repM (gOf d) x.natAbs : Int)) := by show _ = _; unfold standV; rw [if_neg (by omega), if_neg (by omega)]
  have HR1 := Lib.hid fun W (hb : Below w.heap.size w W) => HRP.out (idxN (gOf d) x.natAbs) W hb (idx_pos a0) (idx_le_top (by have := gOf_le d; omega) a0 a1)
  rw [repI_idx a0] at HR1
  obtain ⟨rp, hrp⟩ : ∃ r, repM (gOf d) x.natAbs = r := ⟨_, rfl⟩
  rw [hrp] at hr HST HR1
  have HV : Hid (valM rp true = -(rp : Int)) := by show _ = _; unfold valM; rw [if_pos rfl, if_pos (by omega)]
  have HSV := Lib.hid fun W => sgval_any rp true W (by omega) (by omega)
  have HFF := Lib.hid fun W (hb : Below w.heap.size w W) => HF0.out (negV l - t + 1) (by omega) W hb
  rw [k2] at HFF
  obtain ⟨q, hq⟩ : ∃ q, partD d x.natAbs = q := ⟨_, rfl⟩
  have HQ : Hid (q = (idxN (gOf d) x.natAbs : Nat)) := hq.symm
  rw [hq] at HFF
  rw [HST.out]
  obtain ⟨n, hn⟩ : ∃ n, negV l = n := ⟨_, rfl⟩
  rw [hn] at HT HFF k1 n0
  have w1 : IntKind.u64.wrap (IntKind.u64.wrap (n - t) + 1) = n - t + 1 := by rw [wrap_in (z := n - t) (by omega)]; exact wrap_in (by omega)
  have HW := Lib.hid w1
  have HK : Hid (t ≤ n) := k1
  have kd : decide (t ≤ n) = true := decide_eq_true k1
  have f1 := s1.eight
  have l1 := s1.lt
  clear h hv hx h1 h2 hs hvm hvx hxr hneg hpos hth n0 z0 q0 HF0 HF1 HRP hlt k2 a0 a1 hr hh HST hrp hq hn w1 k1 kd
  go_enter Tryz.func219, Tryz.ntmps219
  go_wp2_with fail
  refine HT.out.mono ?_
  rintro e w1 ⟨rfl, rfl⟩
  have k1 := HK.out
  clear HT
  go_wp2_with fail
  rw [HW.out]
  refine (HFF.out w (Below.refl _ _)).mono ?_
  rintro e w2 ⟨rfl, rfl⟩
  unfold optI
  clear HFF HW
  dsimp only [Option.getD_some, Option.isSome_some]
  go_wp2_with fail
  rw [HQ.out]
  refine (HR1.out w (Below.refl _ _)).mono ?_
  rintro e w3 ⟨rfl, hb3⟩
  clear HR1
  go_wp2_with fail
  refine (HSV.out w3).mono ?_
  rintro e w4 ⟨rfl, rfl⟩
  rw [HV.out]
  go_wp2
  go_ret
  exact ⟨rfl, hb3⟩
 ·obtain ⟨k1, k2⟩ := exact_zero hv.pos hx
  obtain ⟨n, hn⟩ : ∃ n, negV l = n := ⟨_, rfl⟩
  obtain ⟨z, hz⟩ : ∃ n, zeroV l = n := ⟨_, rfl⟩
  rw [hn] at HT k1 k2 n0
  rw [hz] at s1 k2
  have HK : Hid (n < t ∧ t - n ≤ z) := ⟨k1, k2⟩
  have w1 : IntKind.u64.wrap (t - n) = t - n := wrap_in (by omega)
  have HW := Lib.hid w1
  have f1 := s1.eight
  have l1 := s1.lt
  have HB := Lib.hid (Below.refl w.heap.size w)
  have HST : Hid (standV (repM (gOf d)) 0 = 0) := rfl
  rw [HST.out]
  clear h hv hx h1 h2 hs hvm hvx hxr hneg hpos hth n0 z0 q0 HF0 HF1 HRP k2 hn hz w1 k1 HST
  go_enter Tryz.func219, Tryz.ntmps219
  go_wp2_with fail
  refine HT.out.mono ?_
  rintro e w1 ⟨rfl, rfl⟩
  have k1 := HK.out.1
  have k2 := HK.out.2
  have k3 : ¬ t ≤ n := by omega
  clear HT k1 HK
  have HW' := HW.out
  go_wp2
  go_ret
  exact ⟨rfl, (by first | exact Below.refl _ _ | exact (Below.refl _ _).drewN _)⟩
 ·obtain ⟨k1, k2, k3⟩ := exact_pos (partD_mono d) hv.ok hv.pos (by omega) hx hgt
  have a0 : 0 < x.natAbs := by omega
  have a1 : x.natAbs ≤ 9223372036854775808 := by omega
  have hr := repM_le (g := gOf d) a0 a1
  have hh := hi_le (gOf d) x.natAbs
  have HST : Hid (standV (repM (gOf d)) x = min (repM (gOf d) x.natAbs : Int) 9223372036854775807) := by show _ = _; unfold standV; rw [if_neg (by omega), if_pos hgt]
  have HR1 := Lib.hid fun W (hb : Below w.heap.size w W) => HRP.out (idxN (gOf d) x.natAbs) W hb (idx_pos a0) (idx_le_top (by have := gOf_le d; omega) a0 a1)
  rw [repI_idx a0] at HR1
  obtain ⟨rp, hrp⟩ : ∃ r, repM (gOf d) x.natAbs = r := ⟨_, rfl⟩
  rw [hrp] at hr HST HR1
  have HRI : Hid ((rp : Int) < 9223372036854775808 ∨ (rp : Int) = 9223372036854775808) := by show _ ∨ _; omega
  have HSV := Lib.hid fun W => sgval_any rp false W (by omega) (by omega)
  have HFF := Lib.hid fun W (hb : Below w.heap.size w W) => HF1.out (t - negV l - zeroV l) (by omega) W hb
  rw [k3] at HFF
  obtain ⟨q, hq⟩ : ∃ q, partD d x.natAbs = q := ⟨_, rfl⟩
  have HQ : Hid (q = (idxN (gOf d) x.natAbs : Nat)) := hq.symm
  rw [hq] at HFF
  unfold optI at HFF
  dsimp only [Option.getD_some, Option.isSome_some] at HFF
  rw [HST.out]
  obtain ⟨n, hn⟩ : ∃ n, negV l = n := ⟨_, rfl⟩
  obtain ⟨z, hz⟩ : ∃ n, zeroV l = n := ⟨_, rfl⟩
  rw [hn] at HT HFF k1 k2 n0
  rw [hz] at HFF s1 k2 z0
  have w1 : IntKind.u64.wrap (t - n) = t - n := wrap_in (by omega)
  have w2 : IntKind.u64.wrap (t - n - z) = t - n - z := wrap_in (by omega)
  have HW := Lib.hid w1
  have HW2 := Lib.hid w2
  have HK : Hid (n < t ∧ z < t - n) := ⟨k1, k2⟩
  clear h hv hx h1 h2 hs hvm hvx hxr hneg hpos hth n0 z0 q0 HF0 HF1 HRP hgt k2 a0 a1 hr hh HST hrp hq hn hz w1 w2 k1 k3
  go_enter Tryz.func219, Tryz.ntmps219
  have f1 := s1.eight
  have l1 := s1.lt
  go_wp2_with fail
  refine HT.out.mono ?_
  rintro e w1 ⟨rfl, rfl⟩
  have k1 : ¬ t ≤ n := by have := HK.out; omega
  have k2 : ¬ t - n ≤ z := by have := HK.out; omega
  have w1 := HW.out
  have w2 := HW2.out
  clear HT
  go_wp2
  have hfar1 := fun x : Far w => (x.at s1).eight
  refine wp_region_far (by kernel_rfl) (by kernel_rfl) ?_
  repeat (first | go_big_quiet_skip | (go_big_quiet_want; go_big_quiet_op; first | go_big_quiet_on | (apply Exists.intro; refine ⟨fun _ => ?_, ?_⟩; (focus (first | (with_reducible refine far_of (HFF.out _ (Far.below _))))); go_big_quiet_on)))
  refine wpQuiet_nil ?_
  rintro _ ⟨xq, rfl⟩
  clear hfar1
  have hb3 := xq.below
  obtain ⟨W3, hW3⟩ : ∃ W, xq.far = W := ⟨_, rfl⟩
  rw [hW3] at hb3 ⊢
  replace s1 := s1.below hb3
  replace f1 := s1.eight
  replace l1 := s1.lt
  have HB3 := Lib.hid hb3
  clear hW3 hb3 HFF k1 k2 w1 w2 HW HW2 HK
  go_wp2_with fail
  rw [HQ.out]
  refine (HR1.out W3 HB3.out).mono ?_
  rintro e w4 ⟨rfl, hb4⟩
  have HB4 := Lib.hid (keep1 HB3.out hb4)
  clear HR1 hb4 HB3
  go_wp2_with fail
  refine (HSV.out w4).mono ?_
  rintro e w5 ⟨rfl, rfl⟩
  rcases HRI.out with hlt | heq
  ·have HV : valM rp false = rp ∧ valOk rp false = true := by unfold valM valOk; rw [if_neg (by decide), if_pos hlt, if_neg (by decide), decide_eq_true hlt]; exact ⟨rfl, rfl⟩
   rw [HV.1, HV.2]
   have HM : Hid (min (rp : Int) 9223372036854775807 = rp) := by show _ = _; omega
   clear HV hlt HRI
   go_wp2
   go_ret
   exact ⟨by rw [HM.out]; rfl, HB4.out⟩
  ·have HV : valM rp false = 0 ∧ valOk rp false = false := by unfold valM valOk; rw [if_neg (by decide), if_neg (by omega), if_neg (by decide), decide_eq_false (by omega)]; exact ⟨rfl, rfl⟩
   rw [HV.1, HV.2]
   have HM : Hid (min (rp : Int) 9223372036854775807 = 9223372036854775807) := by show _ = _; omega
   clear HV heq HRI
   go_wp2
   go_ret
   exact ⟨by rw [HM.out]; rfl, HB4.out⟩
theorem placeE_zero {a d n : Int} (hn : 0 ≤ n) (h : placeE a d n = 0) : 0 < n ∧ goodF a d = true := by
 unfold placeE at h
 split at h
 ·rename_i hg
  split at h
  ·omega
  ·exact ⟨by omega, hg⟩
 ·omega
set_option maxRecDepth 100000 in
set_option maxHeartbeats 2000000 in
theorem hquant_v (b : Nat) (S : List Nat) (dg lim : Int) (l : List (Int × Int)) (a d : Int) (w : World) (h : HdV w b S dg lim l) (hv : VOk l) (h1 : 0 ≤ a) (h2 : a < 18446744073709551616) (h3 : 0 ≤ d) (h4 : d < 18446744073709551616) :
  Calls Tryz.prog 215 #[.pointer (some ⟨b, 0, none⟩), .agg #[.int .u64 a, .int .u64 d]] w fun e w' => e = .returned (.tuple #[.int .i64 (quantD (standV (repM (gOf dg))) l a d), .int .i64 (placeE a d (sumP l))]) ∧ Below w.heap.size w w' := by
 have HTV := Lib.hid fun W (hb : Below w.heap.size w W) => htotal_v b S dg lim l W (h.below hb) hv
 obtain ⟨sp, b0, b1, S0, S1, rfl, h⟩ := h
 have s1 := h.at'
 have hs0 := hv.sum0
 have hs := hv.sum
 have HC := Lib.hid fun w' => place_any a d (sumP l) w' h1 h2 h3 h4 hs0 (by omega)
 have HQ : Hid (quantD (standV (repM (gOf dg))) l a d = if placeE a d (sumP l) = 0 then min (max (standV (repM (gOf dg)) ((exactV l (placeT a d (sumP l))).getD 0)) (eLow l)) (eHigh l) else 0) := rfl
 have HFD : Hid (placeE a d (sumP l) = 0 → ∀ W, Below w.heap.size w W → Calls Tryz.prog 219 #[.pointer (some ⟨b, 0, none⟩), .int .u64 (placeT a d (sumP l))] W fun e w' => e = .returned (.int .i64 (standV (repM (gOf dg)) ((exactV l (placeT a d (sumP l))).getD 0))) ∧ Below W.heap.size W w') := fun e W hb => by
  obtain ⟨p, q⟩ := placeE_zero hs0 e
  have hp := placeT_is h1 p (by omega) q
  obtain ⟨x, e2, e3⟩ := exactV_some hv.pos hp.one hp.le
  rw [e2, Option.getD_some]
  exact hfind_v b sp b0 b1 S0 S1 dg lim _ _ l _ x W (h.below hb) hv e3 hp.one hp.le
 obtain ⟨er, her⟩ : ∃ t, placeE a d (sumP l) = t := ⟨_, rfl⟩
 obtain ⟨t, ht⟩ : ∃ t, placeT a d (sumP l) = t := ⟨_, rfl⟩
 obtain ⟨qv, hqv⟩ : ∃ t, quantD (standV (repM (gOf dg))) l a d = t := ⟨_, rfl⟩
 rw [ht] at HQ HFD HC
 obtain ⟨sv, hsv⟩ : ∃ s, standV (repM (gOf dg)) ((exactV l t).getD 0) = s := ⟨_, rfl⟩
 rw [her] at HC HQ HFD ⊢
 rw [hsv] at HQ HFD
 rw [hqv] at HQ ⊢
 obtain ⟨tot, htot⟩ : ∃ t, sumP l = t := ⟨_, rfl⟩
 rw [htot] at HTV HC
 obtain ⟨el, hel⟩ : ∃ t, eLow l = t := ⟨_, rfl⟩
 obtain ⟨eh, heh⟩ : ∃ t, eHigh l = t := ⟨_, rfl⟩
 rw [hel, heh] at HQ s1
 have l1 := s1.lt
 clear h hv her ht hqv hsv htot hel heh h1 h2 h3 h4 hs0 hs
 go_enter Tryz.func215, Tryz.ntmps215
 go_wp2
 have hb0 : Below w.heap.size w (w.alloc (.cells #[.int .u64 a, .int .u64 d] 25)) := (Below.refl _ _).alloc (Nat.le_refl _) _
 have s2 := s1.below hb0
 have r2 := At.new' w #[.int .u64 a, .int .u64 d] 25 rfl
 obtain ⟨W1, hW1⟩ : ∃ W1, w.alloc (.cells #[.int .u64 a, .int .u64 d] 25) = W1 := ⟨_, rfl⟩
 rw [hW1] at hb0 s2 r2 ⊢
 obtain ⟨rb, hrb⟩ : ∃ r, w.heap.size = r := ⟨_, rfl⟩
 rw [hrb] at r2 l1
 try rw [hrb]
 have l2 := s2.lt
 have HB0 := Lib.hid hb0
 clear hW1 s1 hb0 hrb
 have hfar1 := fun x : Far W1 => (x.at s2).eight
 have hfar2 := fun x : Far W1 => (x.at r2).two
 refine wp_region_far (by kernel_rfl) (by kernel_rfl) ?_
 repeat (first | go_big_quiet_skip | (go_big_quiet_want; go_big_quiet_op; first | go_big_quiet_on | (apply Exists.intro; refine ⟨fun _ => ?_, ?_⟩; (focus (first | (with_reducible refine far_of (HTV.out _ (keep1 HB0.out (Far.below _)))) | (refine far_of (HC.out _)))); go_big_quiet_on)))
 refine wpQuiet_nil ?_
 rintro _ ⟨xq, rfl⟩
 clear hfar1 hfar2
 have hb2 := xq.below
 obtain ⟨W2, hW2⟩ : ∃ W2, xq.far = W2 := ⟨_, rfl⟩
 rw [hW2] at hb2 ⊢
 have HB2 : Hid (Below w.heap.size w W2) := keep1 HB0.out hb2
 replace s2 := s2.below hb2
 have f2 := s2.eight
 have l3 := s2.lt
 clear hW2 HC l1 l2 hb2 r2 HTV
 by_cases hE : er = 0
 ·subst hE
  have HFF := Lib.hid (HFD.out rfl)
  have HV := HQ.out
  rw [if_pos rfl] at HV
  replace HV := Lib.hid HV
  clear HQ HFD
  go_wp2
  have hfar1 := fun x : Far W2 => (x.at s2).eight
  refine wp_region_far (by kernel_rfl) (by kernel_rfl) ?_
  repeat (first | go_big_quiet_skip | (go_big_quiet_want; go_big_quiet_op; first | go_big_quiet_on | (apply Exists.intro; refine ⟨fun _ => ?_, ?_⟩; (focus (first | (with_reducible refine far_of (HFF.out _ (keep1 HB2.out (Far.below _)))))); go_big_quiet_on)))
  refine wpQuiet_nil ?_
  rintro _ ⟨xq, rfl⟩
  clear hfar1
  have hb3 := xq.below
  have HB3 : Hid (Below w.heap.size w xq.far) := keep1 HB2.out hb3
  clear hb3 HFF
  go_wp2
  go_ret2
  exact ⟨by rw [HV.out]; rfl, HB3.out⟩
 ·have HV : Hid (qv = 0) := by show _ = _; rw [HQ.out, if_neg hE]
  have hne : (er == 0) = false := beq_eq_false_iff_ne.2 hE
  clear HQ HFD hE
  go_wp2
  go_ret2
  exact ⟨by rw [HV.out]; rfl, HB2.out⟩
end Go.Proofs.YtlbnlmhcpephbaaGreatDoor.Hh
namespace Go.Proofs.YtlbnlmhcpephbaaGreatDoor.Hh
section
variable {d : Int} {l : List (Int × Int)} {x : Int}
end
end Go.Proofs.YtlbnlmhcpephbaaGreatDoor.Hh
namespace Go.Proofs.YtlbnlmhcpephbaaGreatDoor.Hh
open Go.RowKit
end Go.Proofs.YtlbnlmhcpephbaaGreatDoor.Hh
namespace Go.Proofs.YtlbnlmhcpephbaaGreatDoor.Hh
open Go.RowKit
set_option maxRecDepth 100000 in
theorem hends_v (b : Nat) (S : List Nat) (d lim : Int) (l : List (Int × Int)) (w : World) (h : HdV w b S d lim l) (hv : VOk l) :
  Calls Tryz.prog 213 #[.pointer (some ⟨b, 0, none⟩)] w fun e w' => e = .returned (.tuple #[.int .i64 (eLow l), .int .i64 (eHigh l), .bool (eIs l)]) ∧ Below w.heap.size w w' := by
 have HT := Lib.hid (htotal_v b S d lim l w h hv)
 obtain ⟨sp, b0, b1, S0, S1, rfl, h⟩ := h
 have s1 := h.at'
 have he := hv.empty
 by_cases h0 : l = []
 ·subst h0
  rw [sumP_nil] at HT
  rw [show eLow [] = 0 from rfl, show eHigh [] = 0 from rfl, show eIs [] = false from rfl]
  clear h hv s1 he
  go_enter Tryz.func213, Tryz.ntmps213
  go_wp2_with fail
  refine HT.out.mono ?_
  rintro e w1 ⟨rfl, hb⟩
  clear HT
  go_wp2
  go_ret3
  exact ⟨rfl, hb⟩
 ·have hn : (sumP l == 0) = false := beq_eq_false_iff_ne.2 fun e => h0 (he.1 e)
  have hi : eIs l = true := decide_eq_true fun e => h0 (List.eq_nil_of_length_eq_zero e)
  rw [hi]
  obtain ⟨t, ht⟩ : ∃ t, sumP l = t := ⟨_, rfl⟩
  rw [ht] at HT hn
  clear h hv he h0 ht hi
  go_enter Tryz.func213, Tryz.ntmps213
  go_wp2_with fail
  refine HT.out.mono ?_
  rintro e w1 ⟨rfl, hb⟩
  replace s1 := s1.below hb
  have f1 := s1.eight
  have l1 := s1.lt
  clear HT
  go_wp2
  go_quiet (fail)
  go_wp2
  go_ret3
  exact ⟨rfl, hb.drewN _⟩
theorem hzero_any (b : Nat) (S : List Nat) (d lim : Int) (ps0 ps1 : List (Int × Int)) (zero least most : Int) (w : World) (h : Hd w b S d lim ps0 ps1 zero least most) :
  Calls Tryz.prog 228 #[.pointer (some ⟨b, 0, none⟩)] w fun e w' => e = .returned (.int .u64 zero) ∧ w = w' := by
 obtain ⟨sp, b0, b1, S0, S1, rfl, h⟩ := h
 have f1 := h.at'.eight
 have l1 := h.at'.lt
 clear h
 go_enter Tryz.func228, Tryz.ntmps228
 go_wp2
 go_ret
 exact ⟨rfl, rfl⟩
end Go.Proofs.YtlbnlmhcpephbaaGreatDoor.Hh
namespace Go.Proofs.YtlbnlmhcpephbaaGreatDoor.Hh
open Go.RowKit
def HdW (b : Nat) (cs : Array Value) (W : World) : Prop := At W b cs 161
theorem HdW.at {b : Nat} {cs : Array Value} {W : World} (h : HdW b cs W) : At W b cs 161 := h
def RowsR (ps0 ps1 : List (Int × Int)) (w : World) (e : Ending) (w' : World) : Prop :=
 ∃ A0 c0 A1 c1, e = .returned (.tuple #[.slice A0 ps0.length c0, .slice A1 ps1.length c1]) ∧ RdP w' A0 ps0 ∧ RdP w' A1 ps1 ∧ Below w.heap.size w w'
set_option maxRecDepth 100000 in
set_option maxHeartbeats 2000000 in
theorem hrows_at (b sp b0 b1 : Nat) (S0 S1 : List Nat) (d lim : Int) (ps0 ps1 : List (Int × Int)) (zero least most : Int) (w : World) (h : HdB w b sp b0 b1 S0 S1 d lim ps0 ps1 zero least most) :
  Calls Tryz.prog 226 #[.pointer (some ⟨b, 0, none⟩)] w fun e w' => RowsR ps0 ps1 w e w' := by
 have H := Lib.hid h
 have s1 := h.at'
 obtain ⟨n0, hn0⟩ : ∃ n, ps0.length = n := ⟨_, rfl⟩
 obtain ⟨n1, hn1⟩ : ∃ n, ps1.length = n := ⟨_, rfl⟩
 have HN := Lib.hid (And.intro hn0 hn1)
 clear h
 go_enter Tryz.func226, Tryz.ntmps226
 go_wp2
 have H1 : Hid (HdB w.drew b sp b0 b1 S0 S1 d lim ps0 ps1 zero least most) := H.out.below (Below.refl _ _).drew
 have HB1 : Hid (Below w.heap.size w w.drew) := (Below.refl _ _).drew
 obtain ⟨W1, hW1⟩ : ∃ W, w.drew = W := ⟨_, rfl⟩
 rw [hW1] at H1 HB1
 clear s1 H hn0 hn1
 have s1 := H1.out.at'
 have hHeld : HeldS (HdW b #[.int .i64 d, .int .u64 lim, .pointer (some ⟨sp, 0, none⟩), .pointer (some ⟨b0, 0, none⟩), .pointer (some ⟨b1, 0, none⟩), .int .u64 zero, .int .i64 least, .int .i64 most]) W1 := HeldS.mk' s1
 haveI hne : Nonempty (Held (HdW b #[.int .i64 d, .int .u64 lim, .pointer (some ⟨sp, 0, none⟩), .pointer (some ⟨b0, 0, none⟩), .pointer (some ⟨b1, 0, none⟩), .int .u64 zero, .int .i64 least, .int .i64 most])) := ⟨⟨W1, s1⟩⟩
 have hfar := fun x : Held (HdW b #[.int .i64 d, .int .u64 lim, .pointer (some ⟨sp, 0, none⟩), .pointer (some ⟨b0, 0, none⟩), .pointer (some ⟨b1, 0, none⟩), .int .u64 zero, .int .i64 least, .int .i64 most]) => x.held.at.eight
 refine wp_region_noPanic ?_
 refine wp_region_held_drew (S := HeldS (HdW b #[.int .i64 d, .int .u64 lim, .pointer (some ⟨sp, 0, none⟩), .pointer (some ⟨b0, 0, none⟩), .pointer (some ⟨b1, 0, none⟩), .int .u64 zero, .int .i64 least, .int .i64 most])) (by kernel_rfl) (by rw [hW1]; exact hHeld) (fun _ => ?_)
 rw [hW1]
 clear hW1
 refine wpAnyH_run0 [true, true, true, true, true, false, true, true, true, true, true] 4 (by kernel_rfl) (by kernel_rfl) (fun _ _ _ _ h => h) (by kernel_rfl) hHeld ?_
 simp only [runOps_true, runOps_false, runOps_nil]
 repeat (first | go_big_quiet_skip | (go_big_quiet_want; go_big_quiet_op; go_big_quiet_on))
 refine wpQuiet_nil ?_
 clear hfar hne
 refine wpAnyH_ready (rs := [5]) (by kernel_rfl) (by simp) ?_
 refine AllReadyH.cons rfl (fun K hK => ?_) AllReadyH.nil
 go_simp
 go_wp2_with (go_at_call 211; refine (spairs_any b0 S0 4096 ps0 W1 H1.out.s0).mono ?_; rintro e w5 ⟨A0, c0, rfl, hO, hb⟩)
 refine hK.out _ _ ?_ (fun hHeld => ?_)
 clear hK K
 ·exact HeldS.mk' (s1.below hb)
 have H5 := Lib.hid (H1.out.below hb)
 have HB5 := Lib.hid (keep1 HB1.out hb)
 have HR0 := Lib.hid hO.rd
 clear hO hb s1 H1 HB1
 refine wpAnyH_ready (rs := [11]) (by kernel_rfl) (by simp) ?_
 refine AllReadyH.cons rfl (fun K hK => ?_) AllReadyH.nil
 go_simp
 go_wp2_with (go_at_call 211; refine (spairs_any b1 S1 4096 ps1 w5 H5.out.s1).mono ?_; rintro e w6 ⟨A1, c1, rfl, hO, hb⟩)
 refine hK.out _ _ ?_ (fun hHeld => ?_)
 clear hK K
 ·exact HeldS.mk' (H5.out.at'.below hb)
 have HB6 := Lib.hid (keep1 HB5.out hb)
 have HR0' := Lib.hid (HR0.out.below hb)
 have HR1 := Lib.hid hO.rd
 clear hO hb H5 HB5 HR0
 refine wpAnyH_run0 [false, false, false, false, false, false, false, false, false, false, false, false, true, true] 0 (by kernel_rfl) (by kernel_rfl) (fun _ _ _ _ h => h) (by kernel_rfl) hHeld ?_
 simp only [runOps_true, runOps_false, runOps_nil]
 repeat (first | go_big_quiet_skip | (go_big_quiet_want; go_big_quiet_op; go_big_quiet_on))
 refine wpQuiet_nil ?_
 refine wpAnyH_done (by kernel_rfl) ?_ _
 refine NoPanic.normal ?_
 clear hHeld
 have HRR : Hid (∀ v, v = Ending.returned (.tuple #[.slice A0 n0 c0, .slice A1 n1 c1]) → RowsR ps0 ps1 w v w6) := fun v hv => ⟨A0, c0, A1, c1, by rw [hv, HN.out.1, HN.out.2], HR0'.out, HR1.out, HB6.out⟩
 rw [HN.out.1, HN.out.2]
 clear HN HR0' HR1 HB6
 go_wp2
 go_ret2
 exact HRR.out _ rfl
theorem hrows_v (b : Nat) (S : List Nat) (d lim : Int) (ps0 ps1 : List (Int × Int)) (zero least most : Int) (w : World) (h : Hd w b S d lim ps0 ps1 zero least most) :
  Calls Tryz.prog 226 #[.pointer (some ⟨b, 0, none⟩)] w fun e w' => RowsR ps0 ps1 w e w' := by
 obtain ⟨sp, b0, b1, S0, S1, rfl, h⟩ := h
 exact hrows_at _ _ _ _ _ _ _ _ _ _ _ _ _ w h
theorem hconf_any (b : Nat) (S : List Nat) (d lim : Int) (ps0 ps1 : List (Int × Int)) (zero least most : Int) (w : World) (h : Hd w b S d lim ps0 ps1 zero least most) :
  Calls Tryz.prog 227 #[.pointer (some ⟨b, 0, none⟩)] w fun e w' => e = .returned (.agg #[.int .i64 d, .int .u64 lim]) ∧ Below w.heap.size w w' := by
 obtain ⟨sp, b0, b1, S0, S1, rfl, h⟩ := h
 have f1 := (h.at'.below ((Below.refl _ _).alloc (Nat.le_refl _) (.cells #[.int .i64 0, .int .u64 0] 110))).eight
 have s1 := At.new w #[.int .i64 0, .int .u64 0] 110
 clear h
 go_enter Tryz.func227, Tryz.ntmps227
 go_wp2
 have d2 := (s1.set2 (.int .i64 d) (.int .u64 lim)).two
 exact bodyPost_ret (v := .agg #[.int .i64 d, .int .u64 lim]) (by simp only [results, Tryz.f227]; simp [go_sem, d2]) rfl ⟨rfl, (by repeat (first | with_reducible assumption | with_reducible exact Below.refl _ _ | with_reducible refine Below.drew ?_ | with_reducible refine Below.drewN ?_ _ | with_reducible refine Below.setCell ?_ (by first | omega | (simp; done) | (simp; omega)) _ | with_reducible refine Below.alloc ?_ (by first | omega | (simp; done) | (simp; omega) | (simp [World.setCell]; omega)) _))⟩
set_option maxRecDepth 100000 in
theorem hnew_bad (d lim : Int) (w : World) (hT : TensAt w) (h : d < 1 ∨ 4 < d ∨ 9223372036854775808 < lim) :
  Calls Tryz.prog 43 #[.agg #[.int .i64 d, .int .u64 lim]] w fun e w' => e = .returned (.tuple #[.pointer none, .int .i64 1]) ∧ Below w.heap.size w w' := by
 have hb0 : Below w.heap.size w (w.alloc (.cells #[.int .i64 d, .int .u64 lim] 110)) := (Below.refl _ _).alloc (Nat.le_refl _) _
 have r2 := At.new' w #[.int .i64 d, .int .u64 lim] 110 rfl
 by_cases hd : d < 1 ∨ 4 < d
 ·have HN := Lib.hid fun W => spnew_bad d W hd
  clear hT h hd
  go_enter Tryz.func43, Tryz.ntmps43
  go_wp2_with fail
  refine (HN.out _).mono ?_
  rintro e w2 ⟨rfl, rfl⟩
  clear HN
  go_wp2
  go_ret2
  exact ⟨rfl, hb0⟩
 ·have HN := Lib.hid fun W (hb : Below w.heap.size w W) => spnew_any d W (hT.below hb) (by omega) (by omega)
  have hl : decide ((9223372036854775808 : Int) < lim) = true := decide_eq_true (by omega)
  clear hT h hd
  go_enter Tryz.func43, Tryz.ntmps43
  go_wp2_with fail
  obtain ⟨W1, hW1⟩ : ∃ W1, w.alloc (.cells #[.int .i64 d, .int .u64 lim] 110) = W1 := ⟨_, rfl⟩
  obtain ⟨rb, hrb⟩ : ∃ r, w.heap.size = r := ⟨_, rfl⟩
  rw [hW1] at hb0 r2 ⊢
  rw [hrb] at r2
  try rw [hrb]
  clear hW1 hrb
  refine (HN.out W1 hb0).mono ?_
  rintro e w2 ⟨⟨sp, rfl, hspe, hsp⟩, hb⟩
  have HB2 := Lib.hid (keep1 hb0 hb)
  replace r2 := r2.below hb
  have f2 := r2.two
  have l2 := r2.lt
  clear hb0 hb hspe hsp HN
  go_wp2
  go_ret2
  exact ⟨rfl, HB2.out⟩
end Go.Proofs.YtlbnlmhcpephbaaGreatDoor.Hh
namespace Go.Proofs.YtlbnlmhcpephbaaGreatDoor.Hh
open Go.RowKit
theorem index0 (b0 b1 : Nat) (W : World) : (Instr.index 159 (.agg #[.pointer (some ⟨b0, 0, none⟩), .pointer (some ⟨b1, 0, none⟩)]) (.int .i64 0)).run Tryz.prog W = .ok (.pointer (some ⟨b0, 0, none⟩)) W := by kernel_rfl
theorem index1 (b0 b1 : Nat) (W : World) : (Instr.index 159 (.agg #[.pointer (some ⟨b0, 0, none⟩), .pointer (some ⟨b1, 0, none⟩)]) (.int .i64 1)).run Tryz.prog W = .ok (.pointer (some ⟨b1, 0, none⟩)) W := by kernel_rfl
set_option maxRecDepth 100000 in
set_option maxHeartbeats 4000000 in
theorem hfits_any (b sp b0 b1 : Nat) (S0 S1 : List Nat) (d lim : Int) (ps0 ps1 : List (Int × Int)) (zero least most : Int) (m sq m0 m1 : Nat) (T0 T1 : List Nat) (d2 lim2 : Int) (qs0 qs1 : List (Int × Int)) (zero2 least2 most2 : Int) (w : World)
  (h : HdB w b sp b0 b1 S0 S1 d lim ps0 ps1 zero least most) (k : HdB w m sq m0 m1 T0 T1 d2 lim2 qs0 qs1 zero2 least2 most2) (h0 : ps0.length + qs0.length ≤ 4096) (h1 : ps1.length + qs1.length ≤ 4096) :
  Calls Tryz.prog 229 #[.pointer (some ⟨b, 0, none⟩), .pointer (some ⟨m, 0, none⟩)] w fun e w' => e = .returned (.bool true) ∧ Below w.heap.size w w' := by
 have H := Lib.hid h
 have HO := Lib.hid k
 have HL := Lib.hid (And.intro h0 h1)
 have s1 := h.at'
 have t1 := k.at'
 have f1 := s1.eight
 have l1 := s1.lt
 have x0 := index0 b0 b1
 have x1 := index1 b0 b1
 clear h k h0 h1
 go_enter Tryz.func229, Tryz.ntmps229
 go_wp2
 go_loopw [5, 6, 7, 9, 14, 28] (fun _ _ _ _ i _ wr => ∃ kk : Nat, kk ≤ 2 ∧ i = .int .i64 kk ∧ Below w.heap.size w wr) (fun _ _ _ _ i _ _ => 2 - (intOf i).toNat)
 case atStart => exact ⟨0, by omega, rfl, Below.refl _ _⟩
 case round =>
  obtain ⟨kk, hkk, rfl, hB⟩ := hrel
  have HB := Lib.hid hB
  clear f1 l1 hB
  rcases (by omega : kk = 0 ∨ kk = 1 ∨ kk = 2) with rfl | rfl | rfl
  ·obtain ⟨a, ha⟩ : ∃ a, ps0.length = a := ⟨_, rfl⟩
   obtain ⟨len, hlen⟩ : ∃ a, qs0.length = a := ⟨_, rfl⟩
   have HAL : Hid (a + len ≤ 4096) := by have := HL.out; show _ ≤ _; omega
   have HLEN := Lib.hid hlen
   go_wp2_with fail
   refine (slen_any b0 S0 4096 ps0 wr (H.out.s0.below HB.out)).mono ?_
   rintro e w1 ⟨rfl, rfl⟩
   rw [ha]
   have t2 := t1.below HB.out
   have g2 := t2.eight
   have l2 := t2.lt
   clear ha
   go_wp2_with fail
   refine (spairs_any m0 T0 4096 qs0 wr (HO.out.s0.below HB.out)).mono ?_
   rintro e w2 ⟨A, c, rfl, ho, hb⟩
   rw [hlen]
   have HR := Lib.hid ho.rd
   have HB2 := Lib.hid (keep1 HB.out hb)
   clear ho hb g2 l2 t2 hlen
   have hB2 : Below w.heap.size w w2 := HB2.out
   go_wp2
   go_loopw [7, 9, 28] (fun n _ i wi => ∃ j : Nat, ∃ z : Int, j ≤ len ∧ i = .int .i64 j ∧ n = .int .i64 z ∧ 0 ≤ z ∧ z ≤ a + j ∧ Hid (Below w2.heap.size w2 wi)) (fun _ _ i _ => len - (intOf i).toNat)
   case atStart => exact ⟨0, a, by omega, rfl, rfl, by omega, by omega, Below.refl _ _⟩
   case round =>
    obtain ⟨j, z, hj, rfl, rfl, hz0, hz1, HB3⟩ := hrel
    have z3 := HB3.out.size
    have hal := HAL.out
    by_cases hjt : j < len
    ·obtain ⟨g', o', rfl, hg', d1, d2⟩ := (HR.out.below HB3.out).at j (by have := HLEN.out; omega)
     obtain ⟨⟨y1, y2⟩, hy⟩ : ∃ y, qs0[j]'(by have := HLEN.out; omega) = y := ⟨_, rfl⟩
     rw [hy] at d1 d2
     dsimp only at d1 d2
     clear hy
     have hB3 : Hid (Below w.heap.size w wr) := keep1 HB2.out HB3.out
     have hB4 : Hid (∀ o : Obj, Below w.heap.size w (wr.alloc o)) := fun o => hB3.out.alloc (hB3.out.size) o
     go_wp2_with fail
     obtain ⟨W3, hW3⟩ : ∃ W3, wr.alloc (.cells #[.int .i64 y1, .int .u64 y2] 247) = W3 := ⟨_, rfl⟩
     have HB5 : Hid (Below w.heap.size w W3 ∧ Below w2.heap.size w2 W3) := by rw [← hW3]; exact ⟨hB4.out _, HB3.out.alloc z3 _⟩
     rw [hW3]
     clear hW3 d1 d2 hB3 hB4
     refine (sat_any b0 S0 4096 ps0 y1 W3 (H.out.s0.below HB5.out.1)).mono ?_
     rintro e w4 ⟨rfl, hb⟩
     have HB6 : Hid (Below w2.heap.size w2 w4) := keep1 HB5.out.2 hb
     clear hb HB5
     by_cases hcz : cnt ps0 y1 = 0
     ·rw [hcz]
      have hwz : wrap64 (z + 1) = z + 1 := by unfold wrap64; omega
      go_wp2
      go_roundw
      case rel => exact ⟨j + 1, z + 1, by omega, by simp, rfl, by omega, by omega, HB6⟩
      case measure => simp [intOf]; omega
     ·have hcz' : (cnt ps0 y1 == 0) = false := beq_eq_false_iff_ne.2 hcz
      obtain ⟨cn, hcn⟩ : ∃ n, cnt ps0 y1 = n := ⟨_, rfl⟩
      rw [hcn] at hcz' ⊢
      clear hcz hcn
      go_wp2
      go_roundw
      case rel => exact ⟨j + 1, z, by omega, by simp, rfl, by omega, by omega, HB6⟩
      case measure => simp [intOf]; omega
    ·have hzz : ¬ (4096 : Int) < z := by omega
     have HB7 : Hid (Below w.heap.size w wr) := keep1 HB2.out HB3.out
     clear hB2
     go_wp2
     go_roundw
     case rel => exact ⟨1, by omega, rfl, HB7.out⟩
     case measure => simp [intOf]
  ·obtain ⟨a, ha⟩ : ∃ a, ps1.length = a := ⟨_, rfl⟩
   obtain ⟨len, hlen⟩ : ∃ a, qs1.length = a := ⟨_, rfl⟩
   have HAL : Hid (a + len ≤ 4096) := by have := HL.out; show _ ≤ _; omega
   have HLEN := Lib.hid hlen
   go_wp2_with fail
   refine (slen_any b1 S1 4096 ps1 wr (H.out.s1.below HB.out)).mono ?_
   rintro e w1 ⟨rfl, rfl⟩
   rw [ha]
   have t2 := t1.below HB.out
   have g2 := t2.eight
   have l2 := t2.lt
   clear ha
   go_wp2_with fail
   refine (spairs_any m1 T1 4096 qs1 wr (HO.out.s1.below HB.out)).mono ?_
   rintro e w2 ⟨A, c, rfl, ho, hb⟩
   rw [hlen]
   have HR := Lib.hid ho.rd
   have HB2 := Lib.hid (keep1 HB.out hb)
   clear ho hb g2 l2 t2 hlen
   have hB2 : Below w.heap.size w w2 := HB2.out
   go_wp2
   go_loopw [7, 9, 28] (fun n _ i wi => ∃ j : Nat, ∃ z : Int, j ≤ len ∧ i = .int .i64 j ∧ n = .int .i64 z ∧ 0 ≤ z ∧ z ≤ a + j ∧ Hid (Below w2.heap.size w2 wi)) (fun _ _ i _ => len - (intOf i).toNat)
   case atStart => exact ⟨0, a, by omega, rfl, rfl, by omega, by omega, Below.refl _ _⟩
   case round =>
    obtain ⟨j, z, hj, rfl, rfl, hz0, hz1, HB3⟩ := hrel
    have z3 := HB3.out.size
    have hal := HAL.out
    by_cases hjt : j < len
    ·obtain ⟨g', o', rfl, hg', d1, d2⟩ := (HR.out.below HB3.out).at j (by have := HLEN.out; omega)
     obtain ⟨⟨y1, y2⟩, hy⟩ : ∃ y, qs1[j]'(by have := HLEN.out; omega) = y := ⟨_, rfl⟩
     rw [hy] at d1 d2
     dsimp only at d1 d2
     clear hy
     have hB3 : Hid (Below w.heap.size w wr) := keep1 HB2.out HB3.out
     have hB4 : Hid (∀ o : Obj, Below w.heap.size w (wr.alloc o)) := fun o => hB3.out.alloc (hB3.out.size) o
     go_wp2_with fail
     obtain ⟨W3, hW3⟩ : ∃ W3, wr.alloc (.cells #[.int .i64 y1, .int .u64 y2] 247) = W3 := ⟨_, rfl⟩
     have HB5 : Hid (Below w.heap.size w W3 ∧ Below w2.heap.size w2 W3) := by rw [← hW3]; exact ⟨hB4.out _, HB3.out.alloc z3 _⟩
     rw [hW3]
     clear hW3 d1 d2 hB3 hB4
     refine (sat_any b1 S1 4096 ps1 y1 W3 (H.out.s1.below HB5.out.1)).mono ?_
     rintro e w4 ⟨rfl, hb⟩
     have HB6 : Hid (Below w2.heap.size w2 w4) := keep1 HB5.out.2 hb
     clear hb HB5
     by_cases hcz : cnt ps1 y1 = 0
     ·rw [hcz]
      have hwz : wrap64 (z + 1) = z + 1 := by unfold wrap64; omega
      go_wp2
      go_roundw
      case rel => exact ⟨j + 1, z + 1, by omega, by simp, rfl, by omega, by omega, HB6⟩
      case measure => simp [intOf]; omega
     ·have hcz' : (cnt ps1 y1 == 0) = false := beq_eq_false_iff_ne.2 hcz
      obtain ⟨cn, hcn⟩ : ∃ n, cnt ps1 y1 = n := ⟨_, rfl⟩
      rw [hcn] at hcz' ⊢
      clear hcz hcn
      go_wp2
      go_roundw
      case rel => exact ⟨j + 1, z, by omega, by simp, rfl, by omega, by omega, HB6⟩
      case measure => simp [intOf]; omega
    ·have hzz : ¬ (4096 : Int) < z := by omega
     have HB7 : Hid (Below w.heap.size w wr) := keep1 HB2.out HB3.out
     clear hB2
     go_wp2
     go_roundw
     case rel => exact ⟨2, by omega, rfl, HB7.out⟩
     case measure => simp [intOf]
  ·clear t1 s1
   go_wp2
   go_ret
   exact ⟨rfl, HB.out⟩
end Go.Proofs.YtlbnlmhcpephbaaGreatDoor.Hh
namespace Go.Proofs.YtlbnlmhcpephbaaGreatDoor.Hh
open Go.RowKit
theorem addAll_one : ∀ (l ps : List (Int × Int)), (addAll ps l).length ≤ ps.length + l.length
 | [], ps => Nat.le_refl _
 | x :: l, ps => by
  have h1 := addAll_one l (rowAdd ps x.1 x.2)
  have h2 := rowAdd_one (ps := ps) (q := x.1) (c := x.2)
  rw [List.length_cons]
  have : addAll ps (x :: l) = addAll (rowAdd ps x.1 x.2) l := rfl
  rw [this]
  omega
theorem rowV_app {part : Nat → Int} {below : Bool} {l k : List (Int × Int)} (hp : ∀ v ∈ l, 0 < v.2) (kp : ∀ v ∈ k, 0 < v.2) (hs : sumP l + sumP k < 18446744073709551616) : rowV part below (l ++ k) = addAll (rowV part below l) (rowV part below k) := by
 have l0 := sumP_nonneg hp
 have k0 := sumP_nonneg kp
 have hpa : ∀ v ∈ l ++ k, 0 < v.2 := fun v hv => (List.mem_append.1 hv).elim (hp v) (kp v)
 have hsa : sumP (l ++ k) < 18446744073709551616 := by rw [sumP_append]; exact hs
 have g1 := rowV_gd (part := part) (below := below) hp (by omega)
 have g2 := rowV_gd (part := part) (below := below) kp (by omega)
 have e1 := rowV_sum (part := part) (below := below) hp (by omega)
 have e2 := rowV_sum (part := part) (below := below) kp (by omega)
 have u1 := (vsum_filter hp fun v => sgn below v.1).2
 have u2 := (vsum_filter kp fun v => sgn below v.1).2
 obtain ⟨a1, a2, a3⟩ := addAll_spec (l := rowV part below k) (ps := rowV part below l) g1 g2.pos (by rw [e1, e2]; omega)
 refine Gd.ext (rowV_gd hpa hsa) a1 fun i => ?_
 rw [a3, rowV_cnt i hpa hsa, rowV_cnt i hp (by omega), rowV_cnt i kp (by omega), List.filter_append, sumP_append]
theorem zeroV_app (l k : List (Int × Int)) : zeroV (l ++ k) = zeroV l + zeroV k := by unfold zeroV; rw [List.filter_append, sumP_append]
theorem eLow_app {l k : List (Int × Int)} (h : VOk l) (hk : k ≠ []) : eLow (l ++ k) = (if sumP l = 0 then eLow k else min (eLow l) (eLow k)) ∧ eHigh (l ++ k) = (if sumP l = 0 then eHigh k else max (eHigh l) (eHigh k)) := by
 by_cases h0 : l = []
 ·subst h0
  rw [if_pos sumP_nil, if_pos sumP_nil]
  exact ⟨rfl, rfl⟩
 ·rw [if_neg fun e => h0 (h.empty.1 e), if_neg fun e => h0 (h.empty.1 e)]
  obtain ⟨⟨v1, m1, e1⟩, ⟨v2, m2, e2⟩⟩ := eLow_mem h0
  obtain ⟨⟨u1, n1, f1⟩, ⟨u2, n2, f2⟩⟩ := eLow_mem hk
  refine ends_uniq ?_ ?_ ?_ ?_
  ·rcases Int.le_total (eLow l) (eLow k) with h1 | h1
   ·exact ⟨v1, List.mem_append.2 (.inl m1), by rw [e1]; omega⟩
   ·exact ⟨u1, List.mem_append.2 (.inr n1), by rw [f1]; omega⟩
  ·intro v hv
   rcases List.mem_append.1 hv with h1 | h1
   ·have := (eLow_le h1).1; omega
   ·have := (eLow_le h1).1; omega
  ·rcases Int.le_total (eHigh l) (eHigh k) with h1 | h1
   ·exact ⟨u2, List.mem_append.2 (.inr n2), by rw [f2]; omega⟩
   ·exact ⟨v2, List.mem_append.2 (.inl m2), by rw [e2]; omega⟩
  ·intro v hv
   rcases List.mem_append.1 hv with h1 | h1
   ·have := (eLow_le h1).2; omega
   ·have := (eLow_le h1).2; omega
theorem frame_two {w w1 w2 : World} {S S1 : List Nat} (hg : GrownS S S1 w.heap.size) (h1 : Frame S w w1) (h2 : Frame S1 w1 w2) : Frame S w w2 := by
 refine ⟨h2.os.trans h1.os, h2.tape.trans h1.tape, h2.output.trans h1.output, Nat.le_trans h1.size h2.size, fun k hk hn => ?_⟩
 refine (h2.block k (Nat.lt_of_lt_of_le hk h1.size) fun hm => ?_).trans (h1.block k hk hn)
 rcases hg k hm with h | h
 ·exact hn h
 ·omega
structure Jn (w wr : World) (b sp b0 b1 : Nat) (S : List Nat) (U0 U1 : List Nat) (d lim : Int) (ps0 ps1 : List (Int × Int)) (zero lo hi : Int) (m : Nat) (T : List Nat) (d2 lim2 : Int) (qs0 qs1 : List (Int × Int)) (zero2 lo2 hi2 : Int) : Prop where
 s : HdB wr b sp b0 b1 U0 U1 d lim ps0 ps1 zero lo hi
 o : Hd wr m T d2 lim2 qs0 qs1 zero2 lo2 hi2
 gr : GrownS S (b :: sp :: (U0 ++ U1)) w.heap.size
 fr : Frame S w wr
 ap : ∀ k ∈ T, k ∉ S ∧ k < w.heap.size
section
variable {w wr w' : World} {b sp b0 b1 : Nat} {S U0 U1 V : List Nat} {d lim : Int} {ps ps0 ps1 : List (Int × Int)} {zero lo hi : Int} {m : Nat} {T : List Nat} {d2 lim2 : Int} {qs0 qs1 : List (Int × Int)} {zero2 lo2 hi2 : Int}
theorem Jn.out (h : Jn w wr b sp b0 b1 S U0 U1 d lim ps0 ps1 zero lo hi m T d2 lim2 qs0 qs1 zero2 lo2 hi2) : Apart T (b :: sp :: (U0 ++ U1)) := fun k hk hm => by
 obtain ⟨h1, h2⟩ := h.ap k hk
 rcases h.gr k hm with h3 | h3
 ·exact h1 h3
 ·omega
theorem Jn.below (h : Jn w wr b sp b0 b1 S U0 U1 d lim ps0 ps1 zero lo hi m T d2 lim2 qs0 qs1 zero2 lo2 hi2) (hb : Below wr.heap.size wr w') : Jn w w' b sp b0 b1 S U0 U1 d lim ps0 ps1 zero lo hi m T d2 lim2 qs0 qs1 zero2 lo2 hi2 :=
 ⟨h.s.below hb, h.o.below hb, h.gr, h.fr.trans (Frame.of_below hb), h.ap⟩
theorem Jn.step0 (h : Jn w wr b sp b0 b1 S U0 U1 d lim ps0 ps1 zero lo hi m T d2 lim2 qs0 qs1 zero2 lo2 hi2) (hg : GrownS U0 V wr.heap.size) (hs : Strip w' b0 V 4096 ps) (hf : Frame U0 wr w') : Jn w w' b sp b0 b1 S V U1 d lim ps ps1 zero lo hi m T d2 lim2 qs0 qs1 zero2 lo2 hi2 := by
 have hz := h.fr.size
 refine ⟨h.s.side0 hg hs hf, h.o.frame hf fun k hk hm => h.out k hk (by simp [hm]), fun k hk => ?_, ?_, h.ap⟩
 ·simp only [List.mem_cons, List.mem_append] at hk
  rcases hk with hk | hk | hk | hk
  ·exact h.gr k (by simp [hk])
  ·exact h.gr k (by simp [hk])
  ·rcases hg k hk with h1 | h1
   ·exact h.gr k (by simp [h1])
   ·exact .inr (Nat.le_trans hz h1)
  ·exact h.gr k (by simp [hk])
 ·exact frame_two (S1 := U0) (fun k hk => h.gr k (by simp [hk])) h.fr hf
theorem Jn.step1 (h : Jn w wr b sp b0 b1 S U0 U1 d lim ps0 ps1 zero lo hi m T d2 lim2 qs0 qs1 zero2 lo2 hi2) (hg : GrownS U1 V wr.heap.size) (hs : Strip w' b1 V 4096 ps) (hf : Frame U1 wr w') : Jn w w' b sp b0 b1 S U0 V d lim ps0 ps zero lo hi m T d2 lim2 qs0 qs1 zero2 lo2 hi2 := by
 have hz := h.fr.size
 refine ⟨h.s.side1 hg hs hf, h.o.frame hf fun k hk hm => h.out k hk (by simp [hm]), fun k hk => ?_, ?_, h.ap⟩
 ·simp only [List.mem_cons, List.mem_append] at hk
  rcases hk with hk | hk | hk | hk
  ·exact h.gr k (by simp [hk])
  ·exact h.gr k (by simp [hk])
  ·exact h.gr k (by simp [hk])
  ·rcases hg k hk with h1 | h1
   ·exact h.gr k (by simp [h1])
   ·exact .inr (Nat.le_trans hz h1)
 ·exact frame_two (S1 := U1) (fun k hk => h.gr k (by simp [hk])) h.fr hf
end
structure Inn (w5 wr : World) (A : Option Addr) (qs : List (Int × Int)) (V U : List Nat) : Prop where
 rd : RdP wr A qs
 gr : GrownS V U w5.heap.size
 ap : ∀ k ∈ blk A, k ∉ V ∧ k < w5.heap.size
 sz : w5.heap.size ≤ wr.heap.size
theorem Inn.below {w5 wr w' : World} {A : Option Addr} {qs : List (Int × Int)} {V U : List Nat} (h : Inn w5 wr A qs V U) (hb : Below wr.heap.size wr w') : Inn w5 w' A qs V U := ⟨h.rd.below hb, h.gr, h.ap, Nat.le_trans h.sz hb.size⟩
theorem Inn.step {w5 wr w' : World} {A : Option Addr} {qs : List (Int × Int)} {V U U' : List Nat} (h : Inn w5 wr A qs V U) (hg : GrownS U U' wr.heap.size) (hf : Frame U wr w') : Inn w5 w' A qs V U' := by
 have hn : ∀ k ∈ blk A, k ∉ U := fun k hk hm => by
  obtain ⟨h1, h2⟩ := h.ap k hk
  rcases h.gr k hm with h3 | h3
  ·exact h1 h3
  ·omega
 refine ⟨?_, fun k hk => ?_, h.ap, Nat.le_trans h.sz hf.size⟩
 ·exact Frame.rd hf h.rd fun a ha => hn _ (by subst ha; simp [blk])
 ·rcases hg k hk with h1 | h1
  ·exact h.gr k h1
  ·exact .inr (Nat.le_trans h.sz h1)
theorem join_room {ps qs : List (Int × Int)} (g : Gd ps) (k : Gd qs) (hs : sumP ps + sumP qs ≤ 9223372036854775807) (hl : ps.length + qs.length ≤ 4096) (j : Nat) (hj : j < qs.length) :
  (stCode 4096 (addAll ps (qs.take j)) (qs[j]'hj).1 (qs[j]'hj).2 = 0 ∧ stStep 4096 (addAll ps (qs.take j)) (qs[j]'hj).1 (qs[j]'hj).2 = addAll ps (qs.take (j + 1))) ∧ 0 ≤ (qs[j]'hj).2 ∧ (qs[j]'hj).2 < 18446744073709551616 := by
 have h1 := k.pos _ (List.getElem_mem hj)
 have h2 := sumP_take qs j hj
 have h3 := (vsum_take k.pos (j + 1)).2
 have p0 := sumP_nonneg g.pos
 have hpt : ∀ x ∈ qs.take j, 0 < x.2 := fun x hx => k.pos x (List.mem_of_mem_take hx)
 have t0 := sumP_nonneg hpt
 obtain ⟨a1, a2, a3⟩ := addAll_spec (l := qs.take j) (ps := ps) g hpt (by omega)
 have hlen : (addAll ps (qs.take j)).length ≤ ps.length + j := Nat.le_trans (addAll_one _ _) (by rw [List.length_take]; omega)
 have hlen2 := rowAdd_one (ps := addAll ps (qs.take j)) (q := (qs[j]'hj).1) (c := (qs[j]'hj).2)
 have hr : stRoom 4096 (addAll ps (qs.take j)) (qs[j]'hj).1 (qs[j]'hj).2 := ⟨by rw [a2]; omega, by omega⟩
 refine ⟨⟨by unfold stCode; rw [if_pos h1, if_pos hr], by unfold stStep; rw [if_pos ⟨h1, hr⟩, addAll_take ps qs j hj]⟩, by omega, by omega⟩
def jn0 (k : Nat) (ps qs : List (Int × Int)) : List (Int × Int) := if k = 0 then ps else addAll ps qs
def jn1 (k : Nat) (ps qs : List (Int × Int)) : List (Int × Int) := if k ≤ 1 then ps else addAll ps qs
end Go.Proofs.YtlbnlmhcpephbaaGreatDoor.Hh
namespace Go.Proofs.YtlbnlmhcpephbaaGreatDoor.Hh
open Go.RowKit
set_option maxRecDepth 100000 in
set_option maxHeartbeats 4000000 in
theorem hjoin_any (b sp b0 b1 : Nat) (S0 S1 : List Nat) (d lim : Int) (ps0 ps1 : List (Int × Int)) (zero least most t : Int) (m sq m0 m1 : Nat) (T0 T1 : List Nat) (lim2 : Int) (qs0 qs1 : List (Int × Int)) (zero2 least2 most2 u : Int) (w : World)
  (h : HdB w b sp b0 b1 S0 S1 d lim ps0 ps1 zero least most) (k : HdB w m sq m0 m1 T0 T1 d lim2 qs0 qs1 zero2 least2 most2) (ap : ∀ k ∈ m :: sq :: (T0 ++ T1), k ∉ b :: sp :: (S0 ++ S1))
  (hz : 0 ≤ zero) (hz2 : 0 ≤ zero2) (ht : sumP ps0 + zero + sumP ps1 = t) (hu : sumP qs0 + zero2 + sumP qs1 = u) (hu0 : u ≠ 0) (htu : t + u ≤ 9223372036854775807)
  (r1 : -9223372036854775808 ≤ least2 ∧ least2 ≤ 9223372036854775807) (r2 : -9223372036854775808 ≤ most2 ∧ most2 ≤ 9223372036854775807)
  (hl : lim = 0 ∨ (0 < lim ∧ (least2.natAbs : Int) ≤ lim ∧ (most2.natAbs : Int) ≤ lim)) (h0 : ps0.length + qs0.length ≤ 4096) (h1 : ps1.length + qs1.length ≤ 4096) :
  Calls Tryz.prog 225 #[.pointer (some ⟨b, 0, none⟩), .pointer (some ⟨m, 0, none⟩)] w fun e w' => e = .returned (.int .i64 0) ∧ ∃ U0 U1, Jn w w' b sp b0 b1 (b :: sp :: (S0 ++ S1)) U0 U1 d lim (addAll ps0 qs0) (addAll ps1 qs1) (zero + zero2) (if t = 0 then least2 else min least least2) (if t = 0 then most2 else max most most2) m (m :: sq :: (T0 ++ T1)) d lim2 qs0 qs1 zero2 least2 most2 := by
 have g0 := sumP_nonneg (ps := ps0) h.s0.gd.pos
 have g1 := sumP_nonneg (ps := ps1) h.s1.gd.pos
 have g2 := sumP_nonneg (ps := qs0) k.s0.gd.pos
 have g3 := sumP_nonneg (ps := qs1) k.s1.gd.pos
 have H := Lib.hid h
 have HO := Lib.hid k
 have HL := Lib.hid (And.intro h0 h1)
 have HAP := Lib.hid ap
 have HZ : Hid (0 ≤ zero ∧ 0 ≤ zero2 ∧ 0 ≤ t ∧ 0 ≤ u ∧ t + u ≤ 9223372036854775807 ∧ zero + zero2 ≤ 9223372036854775807) := ⟨hz, hz2, by omega, by omega, htu, by omega⟩
 have HTT := Lib.hid ht
 have HSM : Hid (sumP ps0 + sumP qs0 ≤ 9223372036854775807 ∧ sumP ps1 + sumP qs1 ≤ 9223372036854775807) := ⟨by omega, by omega⟩
 have HT1 := Lib.hid fun W (hb : Below w.heap.size w W) => htotal_at _ _ _ _ _ _ _ _ _ _ _ _ _ W (HdB.below h hb) hz (by omega)
 have HT2 := Lib.hid fun W (hb : Below w.heap.size w W) => htotal_at _ _ _ _ _ _ _ _ _ _ _ _ _ W (HdB.below k hb) hz2 (by omega)
 rw [ht] at HT1
 rw [hu] at HT2
 have HEND := Lib.hid fun W (hb : Below w.heap.size w W) => hends_any _ _ _ _ _ _ _ _ _ _ _ _ _ least2 most2 t W (HdB.below h hb) hz ht (by omega)
 have HFT := Lib.hid fun W (hb : Below w.heap.size w W) => hfits_any _ _ _ _ _ _ _ _ _ _ _ _ _ _ _ _ _ _ _ _ _ _ _ _ _ _ W (HdB.below h hb) (HdB.below k hb) h0 h1
 have HSG1 := Lib.hid fun W => sgof_any least2 W r1.1 r1.2
 have HSG2 := Lib.hid fun W => sgof_any most2 W r2.1 r2.2
 obtain ⟨lo, hlo⟩ : ∃ l, (if t = 0 then least2 else min least least2) = l := ⟨_, rfl⟩
 obtain ⟨hi, hhi⟩ : ∃ l, (if t = 0 then most2 else max most most2) = l := ⟨_, rfl⟩
 rw [hlo, hhi] at HEND
 rw [hlo, hhi]
 obtain ⟨a1, ha1⟩ : ∃ a : Int, (least2.natAbs : Int) = a := ⟨_, rfl⟩
 obtain ⟨a2, ha2⟩ : ∃ a : Int, (most2.natAbs : Int) = a := ⟨_, rfl⟩
 rw [ha1] at HSG1 hl
 rw [ha2] at HSG2 hl
 have hu1 : (u == 0) = false := beq_eq_false_iff_ne.2 hu0
 obtain ⟨q1, q2⟩ := plus2_yes (a := t) (b := u) htu
 have HP := Lib.hid (And.intro q1 q2)
 have s1 := h.at'
 have t1 := k.at'
 clear h k ap hz hz2 ht hu hu0 htu r1 r2 h0 h1 hlo hhi ha1 ha2 q1 q2 g0 g1 g2 g3
 have hLIM : Hid (lim = 0 ∨ (0 < lim ∧ decide (lim < max a1 a2) = false)) := by
  rcases hl with h | ⟨h1, h2, h3⟩
  ·exact .inl h
  ·exact .inr ⟨h1, decide_eq_false (by omega)⟩
 clear hl
 have f1 := s1.eight
 have l1 := s1.lt
 have f2 := t1.eight
 have l2 := t1.lt
 go_enter Tryz.func225, Tryz.ntmps225
 go_wp2
 go_quiet (fail)
 have hb0 : Below w.heap.size w (w.drewN nq) := (Below.refl _ _).drewN _
 go_wp2_with fail
 refine (HT2.out _ hb0).mono ?_
 rintro e w1 ⟨rfl, hb⟩
 have HB1 := Lib.hid (keep1 hb0 hb)
 clear hb hb0 f1 l1 f2 l2
 have t2 := t1.below HB1.out
 have s2 := s1.below HB1.out
 have f1 := s2.eight
 have l1 := s2.lt
 have f2 := t2.eight
 have l2 := t2.lt
 go_wp2_with fail
 refine (HSG1.out w1).mono ?_
 rintro e w2 ⟨rfl, rfl⟩
 go_wp2_with fail
 refine (HSG2.out w1).mono ?_
 rintro e w2 ⟨rfl, rfl⟩
 clear HSG1 HSG2
 have HST : Hid (∀ W6 w7, Below w.heap.size w W6 → HdB w7 b sp b0 b1 S0 S1 d lim ps0 ps1 zero lo hi → Frame [b] W6 w7 → Jn w w7 b sp b0 b1 (b :: sp :: (S0 ++ S1)) S0 S1 d lim ps0 ps1 zero lo hi m (m :: sq :: (T0 ++ T1)) d lim2 qs0 qs1 zero2 least2 most2) := by
  intro W6 w7 hB hH hF
  have hd : Hd w m (m :: sq :: (T0 ++ T1)) d lim2 qs0 qs1 zero2 least2 most2 := ⟨sq, m0, m1, T0, T1, rfl, HO.out⟩
  exact ⟨hH, (hd.below hB).frame hF fun k hk hm => HAP.out k hk (by simp at hm; simp [hm]), GrownS.refl _ _, (Frame.of_below hB).trans (hF.mono fun k hk => by simp at hk; simp [hk]), fun k hk => ⟨HAP.out k hk, hd.lt k hk⟩⟩
 rcases hLIM.out with rfl | ⟨hl1, hl2⟩
 all_goals
  clear hLIM
  go_wp2_with fail
  refine (HT1.out w1 HB1.out).mono ?_
  rintro e w2 ⟨rfl, hb⟩
  have HB2 := Lib.hid (keep1 HB1.out hb)
  clear hb HT1 f1 l1 f2 l2 s2 t2
  go_wp2_with fail
  refine (HT2.out w2 HB2.out).mono ?_
  rintro e w3 ⟨rfl, hb⟩
  have HB3 := Lib.hid (keep1 HB2.out hb)
  clear hb HT2 HB2
  go_wp2_with fail
  have aa := At.new w3 #[.int .u64 t, .int .u64 u] 23
  refine (plus2_any w3.heap.size t u _ (by have := HZ.out; omega) (by have := HZ.out; omega) (by have := HZ.out; omega) (by have := HZ.out; omega) (aa.cell rfl) (aa.cell rfl)).mono ?_
  rintro e w4 ⟨rfl, rfl⟩
  rw [HP.out.1, HP.out.2]
  have hB4 : Below w.heap.size w (w3.alloc (.cells #[.int .u64 t, .int .u64 u] 23)) := HB3.out.alloc HB3.out.size _
  obtain ⟨W4, hW4⟩ : ∃ W4, w3.alloc (.cells #[.int .u64 t, .int .u64 u] 23) = W4 := ⟨_, rfl⟩
  have HB4 := Lib.hid hB4
  rw [hW4] at HB4
  try rw [hW4]
  clear aa hW4 hB4
  go_wp2_with fail
  refine (HFT.out W4 HB4.out).mono ?_
  rintro e w5 ⟨rfl, hb⟩
  have HB5 := Lib.hid (keep1 HB4.out hb)
  clear hb HFT HB4 HB3
  go_wp2
  have hB6 : Below w.heap.size w w5.drew := HB5.out.drew
  obtain ⟨W6, hW6⟩ : ∃ W, w5.drew = W := ⟨_, rfl⟩
  rw [hW6] at hB6
  have HB6 := Lib.hid hB6
  clear hB6
  have t6 := t1.below HB6.out
  have hHeld : HeldS (HdW m #[.int .i64 d, .int .u64 lim2, .pointer (some ⟨sq, 0, none⟩), .pointer (some ⟨m0, 0, none⟩), .pointer (some ⟨m1, 0, none⟩), .int .u64 zero2, .int .i64 least2, .int .i64 most2]) W6 := HeldS.mk' t6
  haveI hne : Nonempty (Held (HdW m #[.int .i64 d, .int .u64 lim2, .pointer (some ⟨sq, 0, none⟩), .pointer (some ⟨m0, 0, none⟩), .pointer (some ⟨m1, 0, none⟩), .int .u64 zero2, .int .i64 least2, .int .i64 most2])) := ⟨⟨W6, t6⟩⟩
  have hfar := fun x : Held (HdW m #[.int .i64 d, .int .u64 lim2, .pointer (some ⟨sq, 0, none⟩), .pointer (some ⟨m0, 0, none⟩), .pointer (some ⟨m1, 0, none⟩), .int .u64 zero2, .int .i64 least2, .int .i64 most2]) => x.held.at.eight
  refine wp_region_noPanic ?_
  refine wp_region_held_drew (S := HeldS (HdW m #[.int .i64 d, .int .u64 lim2, .pointer (some ⟨sq, 0, none⟩), .pointer (some ⟨m0, 0, none⟩), .pointer (some ⟨m1, 0, none⟩), .int .u64 zero2, .int .i64 least2, .int .i64 most2])) (by kernel_rfl) (by rw [hW6]; exact hHeld) (fun _ => ?_)
  rw [hW6]
  clear hW6
  refine wpAnyH_run0 [true, true, true, true, true, true, true, true, true] 1 (by kernel_rfl) (by kernel_rfl) (fun _ _ _ _ h => h) (by kernel_rfl) hHeld ?_
  simp only [runOps_true, runOps_false, runOps_nil]
  repeat (first | go_big_quiet_skip | (go_big_quiet_want; go_big_quiet_op; go_big_quiet_on))
  refine wpQuiet_nil ?_
  clear hfar hne
  refine wpAnyH_ready (rs := [9]) (by kernel_rfl) (by simp) ?_
  refine AllReadyH.cons rfl (fun K hK => ?_) AllReadyH.nil
  go_simp
  go_wp2_with (go_at_call 218; refine (HEND.out W6 HB6.out).mono ?_; rintro e w7 ⟨rfl, hH, hF⟩)
  refine hK.out _ _ ?_ (fun hHeld => ?_)
  clear hK K
  ·exact HeldS.mk' (hF.at t6 (fun hm => HAP.out m (by simp) (by simp at hm; simp [hm])))
  refine wpAnyH_done (by kernel_rfl) ?_ _
  refine NoPanic.normal ?_
  clear hHeld t6
  have HJ := Lib.hid (HST.out W6 w7 HB6.out hH hF)
  have s7 := hH.at'
  have f1 := s7.eight
  have l1 := s7.lt
  have x0 := index0 b0 b1
  have x1 := index1 b0 b1
  clear hH hF HEND HB5 HB6
  go_wp2
  go_loopw [11, 12, 14, 102, 114] (fun _ _ _ i _ wr => ∃ kk : Nat, ∃ V0 V1, kk ≤ 2 ∧ i = .int .i64 kk ∧ Hid (Jn w wr b sp b0 b1 (b :: sp :: (S0 ++ S1)) V0 V1 d _ (jn0 kk ps0 qs0) (jn1 kk ps1 qs1) zero lo hi m (m :: sq :: (T0 ++ T1)) d lim2 qs0 qs1 zero2 least2 most2)) (fun _ _ _ i _ _ => 2 - (intOf i).toNat)
  case atStart => exact ⟨0, S0, S1, by omega, rfl, HJ⟩
  case round =>
   clear HJ f1 l1 s7
   obtain ⟨kk, V0, V1, hkk, rfl, HJ⟩ := hrel
   rcases (by omega : kk = 0 ∨ kk = 1 ∨ kk = 2) with rfl | rfl | rfl
   ·obtain ⟨sq', m0', m1', T0', T1', _, hO⟩ := HJ.out.o
    have HOO := Lib.hid hO
    obtain ⟨len, hlen⟩ : ∃ a, qs0.length = a := ⟨_, rfl⟩
    have HLEN := Lib.hid hlen
    have s9 := HJ.out.s.at'
    have t9 := hO.at'
    have f9 := s9.eight
    have l9 := s9.lt
    have g9 := t9.eight
    have m9 := t9.lt
    clear hO
    go_wp2_with fail
    refine (spairs_any m0' T0' 4096 qs0 wr HOO.out.s0).mono ?_
    rintro e w5 ⟨A, c, rfl, ho, hb⟩
    rw [hlen]
    have HI : Hid (Inn w5 w5 A qs0 V0 V0) := ⟨ho.rd, GrownS.refl _ _, fun k hk => by
     cases A with
     | none => simp [blk] at hk
     | some a =>
      simp only [blk, List.mem_singleton] at hk
      subst hk
      have := ho.base_le a rfl
      exact ⟨fun hm => by have := HJ.out.s.s0.lt _ hm; omega, this.2⟩, Nat.le_refl _⟩
    have HJ5 := Lib.hid (HJ.out.below hb)
    have hlm : len ≤ 4096 := by have := HL.out; have := HLEN.out; omega
    clear ho hb f9 l9 g9 m9 s9 t9 HOO
    clear hlen
    go_wp2
    go_loopw [14, 114] (fun _ i wi => ∃ j : Nat, ∃ U, j ≤ len ∧ i = .int .i64 j ∧ Hid (Jn w wi b sp b0 b1 (b :: sp :: (S0 ++ S1)) U V1 d _ (addAll ps0 (qs0.take j)) ps1 zero lo hi m (m :: sq :: (T0 ++ T1)) d lim2 qs0 qs1 zero2 least2 most2) ∧ Hid (Inn w5 wi A qs0 V0 U)) (fun _ i _ => len - (intOf i).toNat)
    case atStart => exact ⟨0, V0, by omega, rfl, HJ5, HI⟩
    case round =>
     obtain ⟨j, U, hj, rfl, HJ6, HI6⟩ := hrel
     clear HJ5 HI
     by_cases hjt : j < len
     ·obtain ⟨g', o', rfl, hg', d1, d2⟩ := HI6.out.rd.at j (by have := HLEN.out; omega)
      have HRM := Lib.hid (join_room H.out.s0.gd HO.out.s0.gd HSM.out.1 HL.out.1 j (by have := HLEN.out; omega))
      have HRG := Lib.hid (HO.out.s0.ok _ (List.getElem_mem (show j < qs0.length by have := HLEN.out; omega))).1
      obtain ⟨⟨y1, y2⟩, hy⟩ : ∃ y, qs0[j]'(by have := HLEN.out; omega) = y := ⟨_, rfl⟩
      rw [hy] at d1 d2 HRM HRG
      dsimp only at d1 d2 HRM HRG
      clear hy
      have hba : Below wr.heap.size wr (wr.alloc (.cells #[.int .i64 y1, .int .u64 y2] 247)) := (Below.refl _ _).alloc (Nat.le_refl _) _
      have HJ7 := Lib.hid (HJ6.out.below hba)
      have HI7 := Lib.hid (HI6.out.below hba)
      clear HJ6 HI6 hba
      go_wp2_with fail
      obtain ⟨W3, hW3⟩ : ∃ W3, wr.alloc (.cells #[.int .i64 y1, .int .u64 y2] 247) = W3 := ⟨_, rfl⟩
      rw [hW3] at HJ7 HI7 ⊢
      clear hW3 d1 d2
      refine (sadd_any b0 U 4096 _ y1 y2 W3 HJ7.out.s.s0 HRM.out.2.1 HRM.out.2.2 HRG.out).mono ?_
      rintro e w8 ⟨rfl, U', hg, hS, hF⟩
      rw [HRM.out.1.1]
      rw [HRM.out.1.2] at hS
      have HJ8 := Lib.hid (HJ7.out.step0 hg hS hF)
      have HI8 := Lib.hid (HI7.out.step hg hF)
      clear hg hS hF HJ7 HI7 HRM
      go_wp2
      go_roundw
      case rel => exact ⟨j + 1, U', by omega, by simp, HJ8, HI8⟩
      case measure => simp [intOf]; omega
     ·obtain rfl : j = len := by omega
      have HJ8 := HJ6.out
      rw [List.take_of_length_le (by have := HLEN.out; omega)] at HJ8
      replace HJ8 := Lib.hid HJ8
      clear HJ6 HI6
      go_wp2
      go_roundw
      case rel => exact ⟨1, U, V1, by omega, rfl, HJ8⟩
      case measure => simp [intOf]
   ·obtain ⟨sq', m0', m1', T0', T1', _, hO⟩ := HJ.out.o
    have HOO := Lib.hid hO
    obtain ⟨len, hlen⟩ : ∃ a, qs1.length = a := ⟨_, rfl⟩
    have HLEN := Lib.hid hlen
    have s9 := HJ.out.s.at'
    have t9 := hO.at'
    have f9 := s9.eight
    have l9 := s9.lt
    have g9 := t9.eight
    have m9 := t9.lt
    clear hO
    go_wp2_with fail
    refine (spairs_any m1' T1' 4096 qs1 wr HOO.out.s1).mono ?_
    rintro e w5 ⟨A, c, rfl, ho, hb⟩
    rw [hlen]
    have HI : Hid (Inn w5 w5 A qs1 V1 V1) := ⟨ho.rd, GrownS.refl _ _, fun k hk => by
     cases A with
     | none => simp [blk] at hk
     | some a =>
      simp only [blk, List.mem_singleton] at hk
      subst hk
      have := ho.base_le a rfl
      exact ⟨fun hm => by have := HJ.out.s.s1.lt _ hm; omega, this.2⟩, Nat.le_refl _⟩
    have HJ5 := Lib.hid (HJ.out.below hb)
    have hlm : len ≤ 4096 := by have := HL.out; have := HLEN.out; omega
    clear ho hb f9 l9 g9 m9 s9 t9 HOO
    clear hlen
    go_wp2
    go_loopw [14, 114] (fun _ i wi => ∃ j : Nat, ∃ U, j ≤ len ∧ i = .int .i64 j ∧ Hid (Jn w wi b sp b0 b1 (b :: sp :: (S0 ++ S1)) V0 U d _ (addAll ps0 qs0) (addAll ps1 (qs1.take j)) zero lo hi m (m :: sq :: (T0 ++ T1)) d lim2 qs0 qs1 zero2 least2 most2) ∧ Hid (Inn w5 wi A qs1 V1 U)) (fun _ i _ => len - (intOf i).toNat)
    case atStart => exact ⟨0, V1, by omega, rfl, HJ5, HI⟩
    case round =>
     obtain ⟨j, U, hj, rfl, HJ6, HI6⟩ := hrel
     clear HJ5 HI
     by_cases hjt : j < len
     ·obtain ⟨g', o', rfl, hg', d1, d2⟩ := HI6.out.rd.at j (by have := HLEN.out; omega)
      have HRM := Lib.hid (join_room H.out.s1.gd HO.out.s1.gd HSM.out.2 HL.out.2 j (by have := HLEN.out; omega))
      have HRG := Lib.hid (HO.out.s1.ok _ (List.getElem_mem (show j < qs1.length by have := HLEN.out; omega))).1
      obtain ⟨⟨y1, y2⟩, hy⟩ : ∃ y, qs1[j]'(by have := HLEN.out; omega) = y := ⟨_, rfl⟩
      rw [hy] at d1 d2 HRM HRG
      dsimp only at d1 d2 HRM HRG
      clear hy
      have hba : Below wr.heap.size wr (wr.alloc (.cells #[.int .i64 y1, .int .u64 y2] 247)) := (Below.refl _ _).alloc (Nat.le_refl _) _
      have HJ7 := Lib.hid (HJ6.out.below hba)
      have HI7 := Lib.hid (HI6.out.below hba)
      clear HJ6 HI6 hba
      go_wp2_with fail
      obtain ⟨W3, hW3⟩ : ∃ W3, wr.alloc (.cells #[.int .i64 y1, .int .u64 y2] 247) = W3 := ⟨_, rfl⟩
      rw [hW3] at HJ7 HI7 ⊢
      clear hW3 d1 d2
      refine (sadd_any b1 U 4096 _ y1 y2 W3 HJ7.out.s.s1 HRM.out.2.1 HRM.out.2.2 HRG.out).mono ?_
      rintro e w8 ⟨rfl, U', hg, hS, hF⟩
      rw [HRM.out.1.1]
      rw [HRM.out.1.2] at hS
      have HJ8 := Lib.hid (HJ7.out.step1 hg hS hF)
      have HI8 := Lib.hid (HI7.out.step hg hF)
      clear hg hS hF HJ7 HI7 HRM
      go_wp2
      go_roundw
      case rel => exact ⟨j + 1, U', by omega, by simp, HJ8, HI8⟩
      case measure => simp [intOf]; omega
     ·obtain rfl : j = len := by omega
      have HJ8 := HJ6.out
      rw [List.take_of_length_le (by have := HLEN.out; omega)] at HJ8
      replace HJ8 := Lib.hid HJ8
      clear HJ6 HI6
      go_wp2
      go_roundw
      case rel => exact ⟨2, V0, U, by omega, rfl, HJ8⟩
      case measure => simp [intOf]
   ·obtain ⟨sq', m0', m1', T0', T1', _, hO⟩ := HJ.out.o
    have s9 := HJ.out.s.at'.drew
    have t9 := hO.at'.drew
    have f9 := s9.eight
    have l9 := s9.lt
    have g9 := t9.eight
    have m9 := t9.lt
    have HW : Hid (IntKind.u64.wrap (zero + zero2) = zero + zero2) := wrap_in (by have := HZ.out; omega)
    have HFIN : Hid (∀ W, Below wr.heap.size wr W → Jn w (W.setCell ⟨b, 5, none⟩ (.int .u64 (zero + zero2))) b sp b0 b1 (b :: sp :: (S0 ++ S1)) V0 V1 d _ (addAll ps0 qs0) (addAll ps1 qs1) (zero + zero2) lo hi m (m :: sq :: (T0 ++ T1)) d lim2 qs0 qs1 zero2 least2 most2) := fun W hb => by
     have h1 := HJ.out.below hb
     exact ⟨h1.s.set (zero' := zero + zero2) (least' := lo) (most' := hi) 5 _ (h1.s.at'.set_any 5 _ rfl), h1.o.frame (Frame.set [b] W b 5 _ (by simp)) fun k hk hm => h1.out k hk (by simp at hm; simp [hm]), h1.gr, h1.fr.setc (.inl (by simp)) 5 _, h1.ap⟩
    clear hO s9 t9
    go_wp2
    go_region
    rw [HW.out]
    have HF2 := Lib.hid ((HFIN.out wr (Below.refl _ _)).below (Below.refl _ _).drew)
    clear HFIN HJ f9 l9 g9 m9
    go_wp2
    go_ret
    exact ⟨rfl, V0, V1, HF2.out⟩
theorem hjoin_v (b : Nat) (S : List Nat) (d lim : Int) (l : List (Int × Int)) (m : Nat) (T : List Nat) (lim2 : Int) (l2 : List (Int × Int)) (w : World) (h : HdV w b S d lim l) (k : HdV w m T d lim2 l2) (ap : Apart T S) (hv : VOk l) (kv : VOk l2) (hs : sumP l + sumP l2 ≤ 9223372036854775807)
  (hl : lim = 0 ∨ (0 < lim ∧ ((eLow l2).natAbs : Int) ≤ lim ∧ ((eHigh l2).natAbs : Int) ≤ lim)) (hn : l.length + l2.length ≤ 4096) (hne : l2 ≠ []) :
  Calls Tryz.prog 225 #[.pointer (some ⟨b, 0, none⟩), .pointer (some ⟨m, 0, none⟩)] w fun e w' => e = .returned (.int .i64 0) ∧ HpvR b S d lim (l ++ l2) w w' ∧ HdV w' m T d lim2 l2 := by
 obtain ⟨sp, b0, b1, S0, S1, rfl, h⟩ := h
 obtain ⟨sq, m0, m1, T0, T1, rfl, k⟩ := k
 obtain ⟨t1, t2⟩ := hv.total (part := partD d)
 obtain ⟨u1, u2⟩ := kv.total (part := partD d)
 have l0 := rowV_len (part := partD d) (below := true) (l := l)
 have l1 := rowV_len (part := partD d) (below := false) (l := l)
 have k0 := rowV_len (part := partD d) (below := true) (l := l2)
 have k1 := rowV_len (part := partD d) (below := false) (l := l2)
 obtain ⟨⟨v, mv, ev⟩, ⟨v', mv', ev'⟩⟩ := eLow_mem hne
 have r1 := (kv.ok v mv).1
 have r2 := (kv.ok v' mv').1
 rw [ev] at r1
 rw [ev'] at r2
 have hu0 : sumP l2 ≠ 0 := fun e => hne (kv.empty.1 e)
 obtain ⟨e1, e2⟩ := eLow_app hv hne
 refine (hjoin_any _ _ _ _ _ _ _ _ _ _ _ _ _ _ _ _ _ _ _ _ _ _ _ _ _ _ _ w h k ap t2 u2 t1 u1 hu0 hs r1 r2 hl (by omega) (by omega)).mono ?_
 rintro e w' ⟨rfl, U0, U1, hJ⟩
 refine ⟨rfl, ⟨b :: sp :: (U0 ++ U1), hJ.gr, ?_, hJ.fr⟩, hJ.o⟩
 unfold HdV
 rw [rowV_app hv.pos kv.pos (by omega), rowV_app hv.pos kv.pos (by omega), zeroV_app, e1, e2]
 exact ⟨sp, b0, b1, U0, U1, rfl, hJ.s⟩
set_option maxRecDepth 100000 in
set_option maxHeartbeats 1000000 in
theorem hjoin_empty (b : Nat) (S : List Nat) (d lim : Int) (l : List (Int × Int)) (m : Nat) (T : List Nat) (lim2 : Int) (w : World) (h : HdV w b S d lim l) (k : HdV w m T d lim2 []) :
  Calls Tryz.prog 225 #[.pointer (some ⟨b, 0, none⟩), .pointer (some ⟨m, 0, none⟩)] w fun e w' => e = .returned (.int .i64 0) ∧ Below w.heap.size w w' := by
 have HT := Lib.hid fun W (hb : Below w.heap.size w W) => htotal_v m T d lim2 [] W (k.below hb) VOk.nil
 rw [sumP_nil] at HT
 obtain ⟨sp, b0, b1, S0, S1, rfl, h⟩ := h
 obtain ⟨sq, m0, m1, T0, T1, rfl, k⟩ := k
 have f1 := h.at'.eight
 have l1 := h.at'.lt
 have f2 := k.at'.eight
 have l2 := k.at'.lt
 clear h k
 go_enter Tryz.func225, Tryz.ntmps225
 go_wp2
 go_quiet (fail)
 have hb0 : Below w.heap.size w (w.drewN nq) := (Below.refl _ _).drewN _
 go_wp2_with fail
 refine (HT.out _ hb0).mono ?_
 rintro e w1 ⟨rfl, hb⟩
 have HB1 := Lib.hid (keep1 hb0 hb)
 clear hb hb0 f1 l1 f2 l2 HT
 go_wp2
 go_ret
 exact ⟨rfl, HB1.out⟩
end Go.Proofs.YtlbnlmhcpephbaaGreatDoor.Hh
namespace Go.Proofs.YtlbnlmhcpephbaaGreatDoor.Hh
structure RowOk (top : Int) (q : List (Int × Int)) : Prop where
 gd : Gd q
 bd : ∀ x ∈ q, 0 < x.1 ∧ x.1 ≤ top
 sm : sumP q ≤ 9223372036854775807
theorem RowOk.nil (top : Int) : RowOk top [] := ⟨Gd.nil, fun x hx => by simp at hx, by rw [sumP_nil]; omega⟩
theorem rowAdd_end {ps : List (Int × Int)} {q c : Int} (h : Gd ps) (hl : ∀ x ∈ ps, x.1 < q) (hc : 0 < c) (hc' : c < 18446744073709551616) : rowAdd ps q c = ps ++ [(q, c)] := by
 have h0 : cnt ps q = 0 := by
  show sumP (ps.filter fun x => decide (x.1 = q)) = 0
  rw [List.filter_eq_nil_iff.2 fun x hx => by have := hl x hx; simp; omega]
  rfl
 rw [rowAdd_eq h hc (by omega), h0, List.filter_eq_self.2 fun x hx => decide_eq_true (hl x hx), List.filter_eq_nil_iff.2 fun x hx => by have := hl x hx; simp; omega, List.append_nil, Int.zero_add]
theorem gd_lt {q : List (Int × Int)} (h : Gd q) {j : Nat} (hj : j < q.length) {x : Int × Int} (hx : x ∈ q.take j) : x.1 < (q[j]'hj).1 := by
 obtain ⟨i, hi, rfl⟩ := List.getElem_of_mem hx
 rw [List.length_take] at hi
 rw [List.getElem_take]
 exact List.pairwise_iff_getElem.1 h.srt i j (by omega) hj (by omega)
theorem gd_snoc {ps : List (Int × Int)} {x : Int × Int} (h : Gd ps) (hl : ∀ y ∈ ps, y.1 < x.1) (hx : 0 < x.2) : Gd (ps ++ [x]) :=
 ⟨List.pairwise_append.2 ⟨h.srt, List.pairwise_singleton _ _, fun a ha b hb => by rw [List.mem_singleton] at hb; subst hb; exact hl a ha⟩, fun y hy => (List.mem_append.1 hy).elim (h.pos y) fun e => by rw [List.mem_singleton] at e; subst e; exact hx⟩
structure RowIn (top last : Int) (ps : List (Int × Int)) : Prop where
 ok : RowOk top ps
 le : ∀ x ∈ ps, x.1 ≤ last
 mx : last = 0 ∨ ∃ x ∈ ps, x.1 = last
 l0 : 0 ≤ last
theorem RowIn.nil (top : Int) : RowIn top 0 [] := ⟨RowOk.nil top, fun x hx => by simp at hx, .inl rfl, by omega⟩
theorem RowIn.snoc {top last : Int} {q : List (Int × Int)} {j : Nat} (hj : j < q.length) (h : RowIn top last (q.take j)) (h1 : last < (q[j]'hj).1) (h2 : (q[j]'hj).1 ≤ top) (h3 : 0 < (q[j]'hj).2) (h4 : sumP (q.take j) + (q[j]'hj).2 ≤ 9223372036854775807) :
  RowIn top (q[j]'hj).1 (q.take (j + 1)) ∧ rowAdd (q.take j) (q[j]'hj).1 (q[j]'hj).2 = q.take (j + 1) := by
 have e : q.take (j + 1) = q.take j ++ [q[j]'hj] := List.take_succ_eq_append_getElem hj
 have hl : ∀ y ∈ q.take j, y.1 < (q[j]'hj).1 := fun y hy => by have := h.le y hy; omega
 have p0 := sumP_nonneg h.ok.gd.pos
 have l0 := h.l0
 refine ⟨⟨⟨by rw [e]; exact gd_snoc h.ok.gd hl h3, ?_, ?_⟩, ?_, ?_, by omega⟩, ?_⟩
 ·intro x hx
  rw [e] at hx
  rcases List.mem_append.1 hx with hx | hx
  ·exact h.ok.bd x hx
  ·rw [List.mem_singleton] at hx; subst hx; exact ⟨by omega, h2⟩
 ·rw [e, sumP_append, sumP_cons, sumP_nil]; omega
 ·intro x hx
  rw [e] at hx
  rcases List.mem_append.1 hx with hx | hx
  ·have := hl x hx; omega
  ·rw [List.mem_singleton] at hx; subst hx; exact Int.le_refl _
 ·exact .inr ⟨q[j]'hj, by rw [e]; exact List.mem_append.2 (.inr (List.mem_singleton.2 rfl)), rfl⟩
 ·rw [rowAdd_end h.ok.gd hl h3 (by omega), e]
theorem RowIn.bad {top last : Int} {q : List (Int × Int)} {j : Nat} (hj : j < q.length) (h : RowIn top last (q.take j)) (h1 : (q[j]'hj).1 ≤ last) : ¬ RowOk top q := fun k => by
 rcases h.mx with e | ⟨x, hx, e⟩
 ·have := (k.bd _ (List.getElem_mem hj)).1; omega
 ·have := gd_lt k.gd hj hx; omega
theorem RowOk.over {top : Int} {q : List (Int × Int)} {j : Nat} (hj : j < q.length) (h1 : top < (q[j]'hj).1) : ¬ RowOk top q := fun k => by have := (k.bd _ (List.getElem_mem hj)).2; omega
theorem RowOk.none {top : Int} {q : List (Int × Int)} {j : Nat} (hj : j < q.length) (h1 : (q[j]'hj).2 ≤ 0) : ¬ RowOk top q := fun k => by have := k.gd.pos _ (List.getElem_mem hj); omega
theorem RowOk.much {top : Int} {q : List (Int × Int)} {j : Nat} (hj : j < q.length) (h1 : 9223372036854775807 < sumP (q.take j) + (q[j]'hj).2) : ¬ RowOk top q := fun k => by
 have h2 := sumP_take q j hj
 have h3 := (vsum_take k.gd.pos (j + 1)).2
 have := k.sm
 omega
def topD (d : Int) : Int := ((64 - gOf d) * 2 ^ gOf d : Nat)
theorem rep_pos {d : Int} {i : Nat} (h1 : 0 < i) (h2 : (i : Int) ≤ topD d) : 0 < repI (gOf d) i := by
 have hg := gOf_le d
 unfold topD at h2
 have m1 := (idx_of (g := gOf d) (i := i) (by omega) h1 (by omega)).1
 exact Nat.lt_of_lt_of_le m1 (Nat.le_add_right _ _)
theorem topD_le (d : Int) : 0 ≤ topD d ∧ topD d ≤ 1048576 := by
 have := lastI (gOf_le d)
 unfold topD
 omega
theorem rowV_load {d : Int} {l : List (Int × Int)} (h : VOk l) (below : Bool) : RowOk (topD d) (rowV (partD d) below l) := by
 have hs := h.sum
 refine ⟨rowV_gd h.pos (by omega), ?_, ?_⟩
 ·intro x hx
  have key : ∀ (k ps : List (Int × Int)), (∀ y ∈ ps, 0 < y.1 ∧ y.1 ≤ topD d) → (∀ y ∈ k, 0 < y.1 ∧ y.1 ≤ topD d) → ∀ y ∈ addAll ps k, 0 < y.1 ∧ y.1 ≤ topD d := by
   intro k
   induction k with
   | nil => intro ps hp _ y hy; exact hp y hy
   | cons z k ih =>
    intro ps hp hk
    refine ih (rowAdd ps z.1 z.2) (fun y hy => ?_) fun y hy => hk y (by simp [hy])
    unfold rowAdd at hy
    rcases List.mem_append.1 hy with hy | hy
    ·rcases List.mem_append.1 hy with hy | hy
     ·exact hp y (List.mem_filter.1 hy).1
     ·split at hy
      ·rw [List.mem_singleton] at hy; subst hy; exact hk z (by simp)
      ·simp at hy
    ·exact hp y (List.mem_filter.1 hy).1
  refine key _ [] (fun y hy => by simp at hy) (fun y hy => ?_) x hx
  unfold selV at hy
  obtain ⟨v, hv, rfl⟩ := List.mem_map.1 hy
  obtain ⟨v1, v2⟩ := List.mem_filter.1 hv
  have v3 := (h.ok v v1).1
  have v4 : v.1 ≠ 0 := fun e => by unfold sgn at v2; rw [e] at v2; simp at v2
  have a := idx_pos (g := gOf d) (m := v.1.natAbs) (by omega)
  have b := idx_le_top (g := gOf d) (m := v.1.natAbs) (by have := gOf_le d; omega) (by omega) (by omega)
  unfold partD topD
  dsimp only
  omega
 ·have e := rowV_sum (part := partD d) (below := below) h.pos (by omega)
  have u := (vsum_filter h.pos fun v => sgn below v.1).2
  omega
end Go.Proofs.YtlbnlmhcpephbaaGreatDoor.Hh
namespace Go.Proofs.YtlbnlmhcpephbaaGreatDoor.Hh
open Go.RowKit
def plus3Q (a b c : Int) : Int := if a + b + c ≤ 9223372036854775807 then a + b + c else 0
theorem plus3_any (g : Nat) (a b c : Int) (w : World) (ha : 0 ≤ a ∧ a < 18446744073709551616) (hb : 0 ≤ b ∧ b < 18446744073709551616) (hc : 0 ≤ c ∧ c < 18446744073709551616)
  (h0 : w.cell? ⟨g, 0, none⟩ = some (.int .u64 a)) (h1 : w.cell? ⟨g, 1, none⟩ = some (.int .u64 b)) (h2 : w.cell? ⟨g, 2, none⟩ = some (.int .u64 c)) :
  Calls Tryz.prog 102 #[.slice (some ⟨g, 0, none⟩) 3 3] w fun e w' => e = .returned (.tuple #[.int .u64 (plus3Q a b c), .bool (decide (a + b + c ≤ 9223372036854775807))]) ∧ w = w' := by
 refine (plus_any (some ⟨g, 0, none⟩) 3 3 [a, b, c] w rfl (by omega) (by intro x hx; simp at hx; omega) (fun j hj => ⟨_, rfl, ?_⟩)).mono ?_
 ·rcases (show j = 0 ∨ j = 1 ∨ j = 2 by omega) with rfl | rfl | rfl
  ·simpa [Addr.add] using h0
  ·simpa [Addr.add] using h1
  ·simpa [Addr.add] using h2
 ·rintro e w' ⟨rfl, rfl⟩
  refine ⟨?_, rfl⟩
  congr 1
  have hv : plusF 0 [a, b, c] = if a + b + c ≤ 9223372036854775807 then some (a + b + c) else none := by
   unfold plusF plusF plusF plusF
   by_cases h1 : 0 + a ≤ 9223372036854775807
   ·rw [if_pos h1]
    by_cases h2 : 0 + a + b ≤ 9223372036854775807
    ·rw [if_pos h2]
     by_cases h3 : 0 + a + b + c ≤ 9223372036854775807
     ·rw [if_pos h3, if_pos (by omega), Int.zero_add]
     ·rw [if_neg h3, if_neg (by omega)]
    ·rw [if_neg h2, if_neg (by omega)]
   ·rw [if_neg h1, if_neg (by omega)]
  rw [hv]
  unfold plusV plus3Q
  by_cases h : a + b + c ≤ 9223372036854775807
  ·rw [if_pos h, if_pos h, decide_eq_true h]; rfl
  ·rw [if_neg h, if_neg h, decide_eq_false h]; rfl
theorem sprep_ok (b : Nat) (x d : Int) (w : World) (h : SpanAt w b d) (h1 : 0 < x) (h2 : x ≤ topD d) :
  Calls Tryz.prog 104 #[.pointer (some ⟨b, 0, none⟩), .int .i64 x] w fun e w' => (∃ r : Int, e = .returned (.int .u64 r) ∧ ¬ r = 0) ∧ Below w.heap.size w w' := by
 obtain ⟨i, rfl⟩ := Int.eq_ofNat_of_zero_le (Int.le_of_lt h1)
 refine (sprep_any b i d w h (by omega) (by unfold topD at h2; omega)).mono ?_
 rintro e w' ⟨rfl, hb⟩
 exact ⟨⟨_, rfl, by have := rep_pos (d := d) (i := i) (by omega) h2; omega⟩, hb⟩
structure HloadOk (d : Int) (q0 q1 : List (Int × Int)) (zero lo hi : Int) : Prop where
 r0 : RowOk (topD d) q0
 r1 : RowOk (topD d) q1
 sm : sumP q0 + sumP q1 + zero ≤ 9223372036854775807
 le : lo ≤ hi
 z : sumP q0 + sumP q1 + zero = 0 → lo = 0 ∧ hi = 0
def HloadR (d lim : Int) (q0 q1 : List (Int × Int)) (zero lo hi : Int) (w : World) (e : Ending) (w' : World) : Prop :=
 (HloadOk d q0 q1 zero lo hi ∧ ∃ b S, e = .returned (.tuple #[.pointer (some ⟨b, 0, none⟩), .int .i64 0]) ∧ Within S w.heap.size w'.heap.size ∧ Hd w' b S d lim q0 q1 zero lo hi) ∨
 (¬ HloadOk d q0 q1 zero lo hi ∧ e = .returned (.tuple #[.pointer none, .int .i64 1]))
theorem HloadR.bad {d lim : Int} {q0 q1 : List (Int × Int)} {zero lo hi : Int} {w w' : World} (h : ¬ HloadOk d q0 q1 zero lo hi) : HloadR d lim q0 q1 zero lo hi w (.returned (.tuple #[.pointer none, .int .i64 1])) w' := .inr ⟨h, rfl⟩
def rowOf (q0 q1 : List (Int × Int)) (k : Nat) : List (Int × Int) := if k = 0 then q0 else q1
theorem HloadOk.row {d : Int} {q0 q1 : List (Int × Int)} {zero lo hi : Int} (h : HloadOk d q0 q1 zero lo hi) (k : Nat) : RowOk (topD d) (rowOf q0 q1 k) := by
 unfold rowOf; split
 ·exact h.r0
 ·exact h.r1
def rowK (q : List (Int × Int)) (k i j : Nat) : List (Int × Int) := if k < i then [] else if k = i then q.take j else q
structure LdI (w W : World) (b sp : Nat) (d lim : Int) (q0 q1 : List (Int × Int)) (k j : Nat) : Prop where
 st : ∃ c0 c1 S0 S1, HdB W b sp c0 c1 S0 S1 d lim (rowK q0 k 0 j) (rowK q1 k 1 j) 0 0 0 ∧ Within (b :: sp :: (S0 ++ S1)) w.heap.size W.heap.size
 bl : Below w.heap.size w W
section
variable {w W W' : World} {b sp : Nat} {d lim : Int} {q0 q1 : List (Int × Int)} {k j : Nat}
theorem LdI.below (h : LdI w W b sp d lim q0 q1 k j) (hb : Below W.heap.size W W') : LdI w W' b sp d lim q0 q1 k j := by
 obtain ⟨c0, c1, S0, S1, h1, h2⟩ := h.st
 exact ⟨⟨c0, c1, S0, S1, h1.below hb, h2.mono hb.size⟩, keep1 h.bl hb⟩
theorem LdI.next (h : LdI w W b sp d lim q0 q1 k j) (hk : k < 2) (hj : (rowOf q0 q1 k).length ≤ j) : LdI w W b sp d lim q0 q1 (k + 1) 0 := by
 refine ⟨?_, h.bl⟩
 obtain ⟨c0, c1, S0, S1, h1, h2⟩ := h.st
 refine ⟨c0, c1, S0, S1, ?_, h2⟩
 rcases (by omega : k = 0 ∨ k = 1) with rfl | rfl
 ·have e : q0.take j = q0 := List.take_of_length_le (by unfold rowOf at hj; rwa [if_pos rfl] at hj)
  unfold rowK at h1 ⊢
  simpa [e] using h1
 ·have e : q1.take j = q1 := List.take_of_length_le (by unfold rowOf at hj; rwa [if_neg (by omega)] at hj)
  unfold rowK at h1 ⊢
  simpa [e] using h1
theorem LdI.pick (h : LdI w W b sp d lim q0 q1 k j) (hk : k < 2) : ∃ c0 c1 c S, At W b #[.int .i64 d, .int .u64 lim, .pointer (some ⟨sp, 0, none⟩), .pointer (some ⟨c0, 0, none⟩), .pointer (some ⟨c1, 0, none⟩), .int .u64 0, .int .i64 0, .int .i64 0] 161 ∧
  SpanAt W sp d ∧ W.cell? ⟨b, 3 + k, none⟩ = some (.pointer (some ⟨c, 0, none⟩)) ∧ Strip W c S 4096 ((rowOf q0 q1 k).take j) ∧ b ∉ S ∧ (∀ x ∈ S, w.heap.size ≤ x ∧ x < W.heap.size) ∧
  ∀ W1 W2 T, Below W.heap.size W W1 → GrownS S T W1.heap.size → Strip W2 c T 4096 ((rowOf q0 q1 k).take (j + 1)) → Frame S W1 W2 → LdI w W2 b sp d lim q0 q1 k (j + 1) := by
 obtain ⟨c0, c1, S0, S1, h1, h2⟩ := h.st
 rcases (by omega : k = 0 ∨ k = 1) with rfl | rfl
 ·have e0 : ∀ j, rowK q0 0 0 j = (rowOf q0 q1 0).take j := fun j => by unfold rowK rowOf; simp
  have e1 : ∀ j, rowK q1 0 1 j = [] := fun j => by unfold rowK; simp
  have hst := h1.s0
  rw [e0] at hst
  refine ⟨c0, c1, c0, S0, h1.at', h1.span, h1.at'.cell rfl, hst, h1.n0, fun x hx => h2 x (by simp [hx]), fun W1 W2 T hb hg hS hF => ?_⟩
  have k1 := h1.below hb
  have z1 := h.bl.size
  have z2 := hb.size
  refine ⟨⟨c0, c1, T, S1, ?_, fun x hx => ?_⟩, hF.below' (keep1 h.bl hb) (by omega) fun x hx => ⟨(h2 x (by simp [hx])).1, by have := (h2 x (by simp [hx])).2; omega⟩⟩
  ·rw [e0, e1]
   have := k1.side0 hg hS hF
   rwa [e1] at this
  ·have hz := hF.size
   simp only [List.mem_cons, List.mem_append] at hx
   rcases hx with rfl | rfl | hx | hx
   ·have := h2 x (by simp); omega
   ·have := h2 x (by simp); omega
   ·rcases hg x hx with h3 | h3
    ·have := h2 x (by simp [h3]); omega
    ·exact ⟨by omega, hS.lt x hx⟩
   ·have := h2 x (by simp [hx]); omega
 ·have e1 : ∀ j, rowK q1 1 1 j = (rowOf q0 q1 1).take j := fun j => by unfold rowK rowOf; simp
  have e0 : ∀ j, rowK q0 1 0 j = q0 := fun j => by unfold rowK; simp
  have hst := h1.s1
  rw [e1] at hst
  refine ⟨c0, c1, c1, S1, h1.at', h1.span, h1.at'.cell rfl, hst, h1.n1, fun x hx => h2 x (by simp [hx]), fun W1 W2 T hb hg hS hF => ?_⟩
  have k1 := h1.below hb
  have z1 := h.bl.size
  have z2 := hb.size
  refine ⟨⟨c0, c1, S0, T, ?_, fun x hx => ?_⟩, hF.below' (keep1 h.bl hb) (by omega) fun x hx => ⟨(h2 x (by simp [hx])).1, by have := (h2 x (by simp [hx])).2; omega⟩⟩
  ·rw [e0, e1]
   have := k1.side1 hg hS hF
   rwa [e0] at this
  ·have hz := hF.size
   simp only [List.mem_cons, List.mem_append] at hx
   rcases hx with rfl | rfl | hx | hx
   ·have := h2 x (by simp); omega
   ·have := h2 x (by simp); omega
   ·have := h2 x (by simp [hx]); omega
   ·rcases hg x hx with h3 | h3
    ·have := h2 x (by simp [h3]); omega
    ·exact ⟨by omega, hS.lt x hx⟩
end
theorem LdI.start {w W : World} {b : Nat} {S : List Nat} {d lim : Int} {q0 q1 : List (Int × Int)} (hw : Within S w.heap.size W.heap.size) (h : Hd W b S d lim [] [] 0 0 0) (hb : Below w.heap.size w W) : ∃ sp, LdI w W b sp d lim q0 q1 0 0 := by
 obtain ⟨sp, c0, c1, S0, S1, rfl, h⟩ := h
 exact ⟨sp, ⟨c0, c1, S0, S1, by unfold rowK; simpa using h, hw⟩, hb⟩
def LdW (b k c g : Nat) (cs : Array Value) (x y : Int) (W : World) : Prop := (At W b cs 161 ∧ At W g #[.int .i64 x, .int .u64 y] 247) ∧ W.cell? ⟨b, 3 + k, none⟩ = some (.pointer (some ⟨c, 0, none⟩))
theorem LdW.far {b k c g : Nat} {cs : Array Value} {x y : Int} {W : World} (h : LdW b k c g cs x y W) : At W b cs 161 ∧ At W g #[.int .i64 x, .int .u64 y] 247 := h.1
theorem LdW.strip {b k c g : Nat} {cs : Array Value} {x y : Int} {W : World} (h : LdW b k c g cs x y W) : W.cell? ⟨b, 3 + k, none⟩ = some (.pointer (some ⟨c, 0, none⟩)) := h.2
theorem LdW.keep {b k c g : Nat} {cs : Array Value} {x y : Int} {S : List Nat} {W W' : World} (h : LdW b k c g cs x y W) (hF : Frame S W W') (hb : b ∉ S) (hg : g ∉ S) : LdW b k c g cs x y W' :=
 ⟨⟨hF.at h.1.1 hb, hF.at h.1.2 hg⟩, by rw [← h.2]; exact World.cell?_of_block (w := W) (hF.block b h.1.1.lt hb)⟩
set_option maxRecDepth 100000 in
set_option maxHeartbeats 4000000 in
theorem hload_any (d lim : Int) (A0 : Option Addr) (n0 cp0 : Nat) (q0 : List (Int × Int)) (A1 : Option Addr) (n1 cp1 : Nat) (q1 : List (Int × Int)) (zero lo hi : Int) (w : World) (hT : TensAt w) (h1 : 1 ≤ d) (h4 : d ≤ 4) (hl : 0 ≤ lim) (hl' : lim ≤ 9223372036854775808)
  (k0 : q0.length = n0) (k1 : q1.length = n1) (m0 : n0 ≤ 4096) (m1 : n1 ≤ 4096) (R0 : RdP w A0 q0) (R1 : RdP w A1 q1) (o0 : okP q0) (o1 : okP q1) (hz : 0 ≤ zero) (hz' : zero < 18446744073709551616)
  (hlo : -9223372036854775808 ≤ lo ∧ lo ≤ 9223372036854775807) (hhi : -9223372036854775808 ≤ hi ∧ hi ≤ 9223372036854775807) :
  Calls Tryz.prog 88 #[.agg #[.int .i64 d, .int .u64 lim], .slice A0 n0 cp0, .slice A1 n1 cp1, .int .u64 zero, .int .i64 lo, .int .i64 hi] w fun e w' => HloadR d lim q0 q1 zero lo hi w e w' ∧ Below w.heap.size w w' := by
 have HN := Lib.hid fun W (hb : Below w.heap.size w W) => hnew_any d lim W (hT.below hb) h1 h4 hl hl'
 have HROWS : Hid (∀ k < 2, ∃ A n c, (∀ W, (Instr.index 223 (.agg #[.slice A0 n0 cp0, .slice A1 n1 cp1]) (.int .i64 (k : Nat))).run Tryz.prog W = .ok (.slice A n c) W) ∧ n ≤ 4096 ∧ Hid (RdP w A (rowOf q0 q1 k) ∧ okP (rowOf q0 q1 k) ∧ (rowOf q0 q1 k).length = n)) := fun k hk => by
  rcases (by omega : k = 0 ∨ k = 1) with rfl | rfl
  ·exact ⟨A0, n0, cp0, fun W => by kernel_rfl, m0, R0, o0, k0⟩
  ·exact ⟨A1, n1, cp1, fun W => by kernel_rfl, m1, R1, o1, k1⟩
 have HZ : Hid ((0 ≤ zero ∧ zero < 18446744073709551616) ∧ (-9223372036854775808 ≤ lo ∧ lo ≤ 9223372036854775807) ∧ (-9223372036854775808 ≤ hi ∧ hi ≤ 9223372036854775807)) := ⟨⟨hz, hz'⟩, hlo, hhi⟩
 clear hT h1 h4 hl hl' k0 k1 m0 m1 R0 R1 o0 o1 hz hz' hlo hhi
 go_enter Tryz.func88, Tryz.ntmps88
 have hb0 : Below w.heap.size w (w.alloc (.cells #[.int .i64 d, .int .u64 lim] 110)) := (Below.refl _ _).alloc (Nat.le_refl _) _
 have r2 := At.new' w #[.int .i64 d, .int .u64 lim] 110 rfl
 go_wp2_with fail
 refine (HN.out _ hb0).mono ?_
 rintro e w1 ⟨⟨b, S, rfl, hW, hH⟩, hb⟩
 obtain ⟨sp, hI⟩ := LdI.start (w := w) (q0 := q0) (q1 := q1) (fun x hx => ⟨by have := (hW x hx).1; have := hb0.size; omega, (hW x hx).2⟩) hH (keep1 hb0 hb)
 have H1 := Lib.hid hI
 clear hb0 r2 hW hH hb hI HN
 go_wp2
 go_loopw [16, 17, 18, 20, 34, 40] (fun _ _ _ _ i _ wr => ∃ kk : Nat, kk ≤ 2 ∧ i = .int .i64 kk ∧ Hid (LdI w wr b sp d lim q0 q1 kk 0) ∧ Hid (∀ i < kk, RowOk (topD d) (rowOf q0 q1 i))) (fun _ _ _ _ i _ _ => 2 - (intOf i).toNat)
 case atStart => exact ⟨0, by omega, rfl, H1, fun i hi => by omega⟩
 case round =>
  obtain ⟨kk, hkk, rfl, HI, HOK⟩ := hrel
  clear H1
  by_cases hlt : kk < 2
  ·obtain ⟨A, len, cap, hix, hlen, HX⟩ := HROWS.out kk hlt
   have kk0 : (0 : Int) ≤ kk := by omega
   have kk1 : (kk : Int) < 2 := by omega
   go_wp2
   go_loopw [18, 20, 40] (fun lst _ i wi => ∃ j : Nat, ∃ z : Int, j ≤ len ∧ i = .int .i64 j ∧ lst = .int .i64 z ∧ Hid (LdI w wi b sp d lim q0 q1 kk j) ∧ Hid (RowIn (topD d) z ((rowOf q0 q1 kk).take j))) (fun _ _ i _ => len - (intOf i).toNat)
   case atStart => exact ⟨0, 0, by omega, rfl, rfl, HI, RowIn.nil _⟩
   case round =>
    obtain ⟨j, z, hj, rfl, rfl, HJ, HIN⟩ := hrel
    clear HI
    by_cases hjt : j < len
    ·obtain ⟨g, o, rfl, hg, c1, c2⟩ := (HX.out.1.below HJ.out.bl).at j (by have := HX.out.2.2; omega)
     have HB := Lib.hid (HX.out.2.1.at j (by have := HX.out.2.2; omega))
     have HJL : Hid (j < (rowOf q0 q1 kk).length) := by have := HX.out.2.2; show _ < _; omega
     have HBAD1 : Hid (((rowOf q0 q1 kk)[j]'HJL.out).1 ≤ z → ¬ HloadOk d q0 q1 zero lo hi) := fun h k => HIN.out.bad HJL.out h (k.row kk)
     have HBAD2 : Hid (topD d < ((rowOf q0 q1 kk)[j]'HJL.out).1 → ¬ HloadOk d q0 q1 zero lo hi) := fun h k => RowOk.over HJL.out h (k.row kk)
     have HBAD3 : Hid (((rowOf q0 q1 kk)[j]'HJL.out).2 ≤ 0 → ¬ HloadOk d q0 q1 zero lo hi) := fun h k => RowOk.none HJL.out h (k.row kk)
     have HBAD4 : Hid (9223372036854775807 < sumP ((rowOf q0 q1 kk).take j) + ((rowOf q0 q1 kk)[j]'HJL.out).2 → ¬ HloadOk d q0 q1 zero lo hi) := fun h k => RowOk.much HJL.out h (k.row kk)
     have HSN := Lib.hid fun h1 h2 h3 h4 => RowIn.snoc (top := topD d) (last := z) HJL.out HIN.out h1 h2 h3 h4
     have HL0 := Lib.hid (And.intro HIN.out.l0 (And.intro HIN.out.ok.gd (And.intro (sumP_nonneg HIN.out.ok.gd.pos) (topD_le d))))
     have HTL : Hid (((rowOf q0 q1 kk).take (j + 1)).length ≤ 4096) := by have := HX.out.2.2; show _ ≤ _; rw [List.length_take]; omega
     obtain ⟨⟨x, y⟩, hx⟩ : ∃ x, (rowOf q0 q1 kk)[j]'HJL.out = x := ⟨_, rfl⟩
     rw [hx] at c1 c2 HB HBAD1 HBAD2 HBAD3 HBAD4 HSN
     dsimp only at c1 c2 HB HBAD1 HBAD2 HBAD3 HBAD4 HSN
     clear hx
     have hba : Below wr.heap.size wr (wr.alloc (.cells #[.int .i64 x, .int .u64 y] 247)).drew := ((Below.refl _ _).alloc (Nat.le_refl _) _).drew
     have aP := (At.new wr #[.int .i64 x, .int .u64 y] 247).drew
     have hgl : Hid (∀ c ∈ [wr.heap.size], wr.heap.size ≤ c) := fun c hc => by simp at hc; omega
     go_wp2
     obtain ⟨W4, hW4⟩ : ∃ W, (wr.alloc (.cells #[.int .i64 x, .int .u64 y] 247)).drew = W := ⟨_, rfl⟩
     obtain ⟨g2, hg2⟩ : ∃ g2, wr.heap.size = g2 := ⟨_, rfl⟩
     rw [hW4] at hba aP
     have H4 := Lib.hid (HJ.out.below hba)
     obtain ⟨c0', c1', ck, Sk, p1, p2, p3, p4, p5, p6, p7⟩ := HJ.out.pick hlt
     have HGS : Hid (g2 ∉ Sk) := fun hm => by have := (p6 g2 hm).2; omega
     have q1' := p1.below hba
     have p3' : W4.cell? ⟨b, 3 + kk, none⟩ = some (.pointer (some ⟨ck, 0, none⟩)) := by rw [← p3]; exact World.cell?_of_block (w := wr) (hba.block b p1.lt)
     have HSP := Lib.hid (p2.below hba)
     have HST := Lib.hid (p4.below hba)
     have HNB := Lib.hid p5
     have HP6 := Lib.hid fun x hx => (p6 x hx).1
     have HP7 := Lib.hid fun W1 W2 T (hb : Below W4.heap.size W4 W1) => p7 W1 W2 T (keep1 hba hb)
     rw [hg2] at aP
     simp only [hg2]
     have hL4 : LdW b kk ck g2 #[.int .i64 d, .int .u64 lim, .pointer (some ⟨sp, 0, none⟩), .pointer (some ⟨c0', 0, none⟩), .pointer (some ⟨c1', 0, none⟩), .int .u64 0, .int .i64 0, .int .i64 0] x y W4 := ⟨⟨q1', aP⟩, p3'⟩
     have HL4 := Lib.hid hL4
     haveI hne : Nonempty (Held (LdW b kk ck g2 #[.int .i64 d, .int .u64 lim, .pointer (some ⟨sp, 0, none⟩), .pointer (some ⟨c0', 0, none⟩), .pointer (some ⟨c1', 0, none⟩), .int .u64 0, .int .i64 0, .int .i64 0] x y)) := ⟨⟨W4, hL4⟩⟩
     have hfar1 := fun v : Held (LdW b kk ck g2 #[.int .i64 d, .int .u64 lim, .pointer (some ⟨sp, 0, none⟩), .pointer (some ⟨c0', 0, none⟩), .pointer (some ⟨c1', 0, none⟩), .int .u64 0, .int .i64 0, .int .i64 0] x y) => v.held.far.1.eight
     have hfar2 := fun v : Held (LdW b kk ck g2 #[.int .i64 d, .int .u64 lim, .pointer (some ⟨sp, 0, none⟩), .pointer (some ⟨c0', 0, none⟩), .pointer (some ⟨c1', 0, none⟩), .int .u64 0, .int .i64 0, .int .i64 0] x y) => v.held.far.2.two
     have hfar3 := fun v : Held (LdW b kk ck g2 #[.int .i64 d, .int .u64 lim, .pointer (some ⟨sp, 0, none⟩), .pointer (some ⟨c0', 0, none⟩), .pointer (some ⟨c1', 0, none⟩), .int .u64 0, .int .i64 0, .int .i64 0] x y) => v.held.strip
     refine wp_region_noPanic ?_
     refine wp_region_held_drew (S := HeldS (LdW b kk ck g2 #[.int .i64 d, .int .u64 lim, .pointer (some ⟨sp, 0, none⟩), .pointer (some ⟨c0', 0, none⟩), .pointer (some ⟨c1', 0, none⟩), .int .u64 0, .int .i64 0, .int .i64 0] x y)) (by kernel_rfl) (by rw [hW4]; exact HeldS.mk' HL4.out) (fun hHeld => ?_)
     rw [hW4] at hHeld ⊢
     clear hW4 hg2 hba aP hgl p1 p2 p3 p4 p5 p6 p7 q1' p3' hL4 c1 c2 hg HJ hix HOK HIN
     by_cases hxz : x ≤ z
     ·have HBD := Lib.hid (HBAD1.out hxz)
      have hd : decide (x ≤ z) = true := decide_eq_true hxz
      clear hxz HBAD1 HBAD2 HBAD3 HBAD4 HSN HB HX HST HP7 HSP
      refine wpAnyH_run0 [true, true, true, true, true, true, true, true, true, true, true] 17 (by kernel_rfl) (by kernel_rfl) (fun _ _ _ _ h => h) (by kernel_rfl) hHeld ?_
      simp only [runOps_true, runOps_false, runOps_nil]
      repeat (first | go_big_quiet_skip | (go_big_quiet_want; go_big_quiet_op; go_big_quiet_on))
      refine wpQuiet_nil ?_
      refine wpAnyH_ready (rs := [11]) (by kernel_rfl) (by simp) ?_
      refine AllReadyH.cons rfl (fun K hK => ?_) AllReadyH.nil
      go_simp
      refine hK.out _ _ ?_ (fun hHeld => ?_)
      clear hK K
      ·exact HeldS.mk' HL4.out
      refine wpAnyH_run0 [false, false, false, false, false, false, false, false, false, false, false, false, true, true, true, true, true, true, true, true, true, true, true, true, true] 3 (by kernel_rfl) (by kernel_rfl) (fun _ _ _ _ h => h) (by kernel_rfl) hHeld ?_
      simp only [runOps_true, runOps_false, runOps_nil]
      repeat (first | go_big_quiet_skip | (go_big_quiet_want; go_big_quiet_op; go_big_quiet_on))
      refine wpQuiet_nil ?_
      refine wpAnyH_ready (rs := [25]) (by kernel_rfl) (by simp) ?_
      refine AllReadyH.cons rfl (fun K hK => ?_) AllReadyH.nil
      go_simp
      refine hK.out _ _ ?_ (fun hHeld => ?_)
      clear hK K
      ·exact HeldS.mk' HL4.out
      refine wpAnyH_run0 [false, false, false, false, false, false, false, false, false, false, false, false, false, false, false, false, false, false, false, false, false, false, false, false, false, false, true, true] 0 (by kernel_rfl) (by kernel_rfl) (fun _ _ _ _ h => h) (by kernel_rfl) hHeld ?_
      simp only [runOps_true, runOps_false, runOps_nil]
      repeat (first | go_big_quiet_skip | (go_big_quiet_want; go_big_quiet_op; go_big_quiet_on))
      refine wpQuiet_nil ?_
      refine wpAnyH_done (by kernel_rfl) ?_ _
      refine NoPanic.normal ?_
      clear hfar1 hfar2 hfar3 hHeld hd
      go_wp2
      go_ret2
      exact ⟨HloadR.bad HBD.out, H4.out.bl⟩
     ·have hd : decide (x ≤ z) = false := decide_eq_false hxz
      have HXZ : Hid (z < x) := by show _ < _; omega
      clear hxz HBAD1
      refine wpAnyH_run0 [true, true, true, true, true, true, true, true, true, true, true] 17 (by kernel_rfl) (by kernel_rfl) (fun _ _ _ _ h => h) (by kernel_rfl) hHeld ?_
      simp only [runOps_true, runOps_false, runOps_nil]
      repeat (first | go_big_quiet_skip | (go_big_quiet_want; go_big_quiet_op; go_big_quiet_on))
      refine wpQuiet_nil ?_
      by_cases htop : topD d < x
      ·have HBD := Lib.hid (HBAD2.out htop)
       have HTP : Hid (topD d < x) := htop
       clear htop HBAD2 HBAD3 HBAD4 HSN HB HX HP7
       refine wpAnyH_ready (rs := [11]) (by kernel_rfl) (by simp) ?_
       refine AllReadyH.cons rfl (fun K hK => ?_) AllReadyH.nil
       go_simp
       go_wp2_with (go_at_call 104; refine (sprep_bad sp x d W4 HSP.out (.inr HTP.out)).mono ?_; rintro e w5 ⟨rfl, hb⟩)
       refine hK.out _ _ ?_ (fun hHeld => ?_)
       clear hK K
       ·exact HeldS.mk' (HL4.out.keep (Frame.of_below (S := []) hb) (by simp) (by simp))
       have H5 := Lib.hid (H4.out.below hb)
       have HL5 := Lib.hid (HL4.out.keep (Frame.of_below (S := []) hb) (by simp) (by simp))
       clear hb H4 HL4 HST HSP
       refine wpAnyH_run0 [false, false, false, false, false, false, false, false, false, false, false, false, true, true, true, true, true, true, true, true, true, true, true, true, true] 3 (by kernel_rfl) (by kernel_rfl) (fun _ _ _ _ h => h) (by kernel_rfl) hHeld ?_
       simp only [runOps_true, runOps_false, runOps_nil]
       repeat (first | go_big_quiet_skip | (go_big_quiet_want; go_big_quiet_op; go_big_quiet_on))
       refine wpQuiet_nil ?_
       refine wpAnyH_ready (rs := [25]) (by kernel_rfl) (by simp) ?_
       refine AllReadyH.cons rfl (fun K hK => ?_) AllReadyH.nil
       go_simp
       refine hK.out _ _ ?_ (fun hHeld => ?_)
       clear hK K
       ·exact HeldS.mk' HL5.out
       refine wpAnyH_run0 [false, false, false, false, false, false, false, false, false, false, false, false, false, false, false, false, false, false, false, false, false, false, false, false, false, false, true, true] 0 (by kernel_rfl) (by kernel_rfl) (fun _ _ _ _ h => h) (by kernel_rfl) hHeld ?_
       simp only [runOps_true, runOps_false, runOps_nil]
       repeat (first | go_big_quiet_skip | (go_big_quiet_want; go_big_quiet_op; go_big_quiet_on))
       refine wpQuiet_nil ?_
       refine wpAnyH_done (by kernel_rfl) ?_ _
       refine NoPanic.normal ?_
       clear hfar1 hfar2 hfar3 hHeld hd
       go_wp2
       go_ret2
       exact ⟨HloadR.bad HBD.out, H5.out.bl⟩
      ·have HTP : Hid (0 < x ∧ x ≤ topD d) := ⟨by have := HXZ.out; have := HL0.out.1; omega, by omega⟩
       clear htop HBAD2
       refine wpAnyH_ready (rs := [11]) (by kernel_rfl) (by simp) ?_
       refine AllReadyH.cons rfl (fun K hK => ?_) AllReadyH.nil
       go_simp
       go_wp2_with (go_at_call 104; refine (sprep_ok sp x d W4 HSP.out HTP.out.1 HTP.out.2).mono ?_; rintro e w5 ⟨⟨r, rfl, hr⟩, hb⟩)
       refine hK.out _ _ ?_ (fun hHeld => ?_)
       clear hK K
       ·exact HeldS.mk' (HL4.out.keep (Frame.of_below (S := []) hb) (by simp) (by simp))
       have H5 := Lib.hid (H4.out.below hb)
       have HL5 := Lib.hid (HL4.out.keep (Frame.of_below (S := []) hb) (by simp) (by simp))
       have HS5 := Lib.hid (HST.out.below hb)
       have HP5 := Lib.hid fun W2 T => HP7.out w5 W2 T hb
       clear hb H4 HL4 HST HSP HP7
       have hr0 : (r == 0) = false := beq_eq_false_iff_ne.2 hr
       clear hr
       refine wpAnyH_run0 [false, false, false, false, false, false, false, false, false, false, false, false, true, true, true, true, true, true, true, true, true, true, true, true, true] 3 (by kernel_rfl) (by kernel_rfl) (fun _ _ _ _ h => h) (by kernel_rfl) hHeld ?_
       simp only [runOps_true, runOps_false, runOps_nil]
       repeat (first | go_big_quiet_skip | (go_big_quiet_want; go_big_quiet_op; go_big_quiet_on))
       refine wpQuiet_nil ?_
       clear hr0
       have HGD := HL0.out.2.1
       have HCNT : Hid (∀ v, stCode 4096 ((rowOf q0 q1 kk).take j) x y = v → v = 0 → (0 < y ∧ sumP ((rowOf q0 q1 kk).take j) + y ≤ 9223372036854775807)) := fun v hv h0 => by
        unfold stCode at hv
        by_cases hy : 0 < y
        ·rw [if_pos hy] at hv
         by_cases hr : stRoom 4096 ((rowOf q0 q1 kk).take j) x y
         ·exact ⟨hy, by have := hr.1; omega⟩
         ·rw [if_neg hr] at hv; omega
        ·rw [if_neg hy] at hv; omega
       have HCN0 : Hid ((0 < y ∧ sumP ((rowOf q0 q1 kk).take j) + y ≤ 9223372036854775807) → RowIn (topD d) x ((rowOf q0 q1 kk).take (j + 1)) ∧ stCode 4096 ((rowOf q0 q1 kk).take j) x y = 0 ∧ stStep 4096 ((rowOf q0 q1 kk).take j) x y = (rowOf q0 q1 kk).take (j + 1)) := fun ⟨hy, hs⟩ => by
        obtain ⟨u1, u2⟩ := HSN.out HXZ.out HTP.out.2 hy hs
        have hroom : stRoom 4096 ((rowOf q0 q1 kk).take j) x y := ⟨by omega, by rw [u2]; have := HTL.out; omega⟩
        exact ⟨u1, by unfold stCode; rw [if_pos hy, if_pos hroom], by unfold stStep; rw [if_pos ⟨hy, hroom⟩, u2]⟩
       clear HGD
       obtain ⟨cd, hcd⟩ : ∃ cd, stCode 4096 ((rowOf q0 q1 kk).take j) x y = cd := ⟨_, rfl⟩
       have HCD := Lib.hid hcd
       by_cases hyy : 0 < y ∧ sumP ((rowOf q0 q1 kk).take j) + y ≤ 9223372036854775807
       ·have HOKJ := Lib.hid (HCN0.out hyy)
        clear hyy hcd HCD HCN0 HCNT HBAD3 HBAD4
        refine wpAnyH_ready (rs := [25]) (by kernel_rfl) (by simp) ?_
        refine AllReadyH.cons rfl (fun K hK => ?_) AllReadyH.nil
        go_simp
        go_wp2_with (go_at_call 105; refine (sadd_any ck Sk 4096 _ x y w5 HS5.out HB.out.2.1 HB.out.2.2 HB.out.1).mono ?_; rintro e w6 ⟨rfl, T, hgT, hsT, hfT⟩; rw [HOKJ.out.2.1])
        refine hK.out _ _ ?_ (fun hHeld => ?_)
        clear hK K
        ·exact HeldS.mk' (HL5.out.keep hfT HNB.out HGS.out)
        rw [HOKJ.out.2.2] at hsT
        have H6 := Lib.hid (HP5.out w6 T hgT hsT hfT)
        have HP6 : Hid (At w6 g2 #[.int .i64 x, .int .u64 y] 247) := hfT.at HL5.out.far.2 HGS.out
        clear hgT hsT hfT HP5 H5 HS5 HNB HSN HL5
        refine wpAnyH_run0 [false, false, false, false, false, false, false, false, false, false, false, false, false, false, false, false, false, false, false, false, false, false, false, false, false, false, true, true] 0 (by kernel_rfl) (by kernel_rfl) (fun _ _ _ _ h => h) (by kernel_rfl) hHeld ?_
        simp only [runOps_true, runOps_false, runOps_nil]
        repeat (first | go_big_quiet_skip | (go_big_quiet_want; go_big_quiet_op; go_big_quiet_on))
        refine wpQuiet_nil ?_
        refine wpAnyH_done (by kernel_rfl) ?_ _
        refine NoPanic.normal ?_
        clear hfar1 hfar2 hfar3 hHeld hd
        have f6 := HP6.out.two
        have l6 := HP6.out.lt
        go_wp2
        go_roundw
        case rel => exact ⟨j + 1, x, by omega, by simp, rfl, H6, HOKJ.out.1⟩
        case measure => simp [intOf]; omega
       ·have HBD : Hid (¬ HloadOk d q0 q1 zero lo hi) := by
         by_cases hy : 0 < y
         ·exact HBAD4.out (by omega)
         ·exact HBAD3.out (by omega)
        have hcd0 : ¬ cd = 0 := fun h0 => hyy (HCNT.out cd hcd h0)
        clear hyy hcd HCN0 HCNT HBAD3 HBAD4
        refine wpAnyH_ready (rs := [25]) (by kernel_rfl) (by simp) ?_
        refine AllReadyH.cons rfl (fun K hK => ?_) AllReadyH.nil
        go_simp
        go_wp2_with (go_at_call 105; refine (sadd_any ck Sk 4096 _ x y w5 HS5.out HB.out.2.1 HB.out.2.2 HB.out.1).mono ?_; rintro e w6 ⟨rfl, T, hgT, hsT, hfT⟩; rw [HCD.out])
        refine hK.out _ _ ?_ (fun hHeld => ?_)
        clear hK K
        ·exact HeldS.mk' (HL5.out.keep hfT HNB.out HGS.out)
        have HB6 : Hid (Below w.heap.size w w6) := hfT.below' H5.out.bl H5.out.bl.size (fun m hm => ⟨HP6.out m hm, HS5.out.lt m hm⟩)
        clear hgT hsT hfT HP5 H5 HS5 HNB HSN HL5
        refine wpAnyH_run0 [false, false, false, false, false, false, false, false, false, false, false, false, false, false, false, false, false, false, false, false, false, false, false, false, false, false, true, true] 0 (by kernel_rfl) (by kernel_rfl) (fun _ _ _ _ h => h) (by kernel_rfl) hHeld ?_
        simp only [runOps_true, runOps_false, runOps_nil]
        repeat (first | go_big_quiet_skip | (go_big_quiet_want; go_big_quiet_op; go_big_quiet_on))
        refine wpQuiet_nil ?_
        refine wpAnyH_done (by kernel_rfl) ?_ _
        refine NoPanic.normal ?_
        clear hfar1 hfar2 hfar3 hHeld hd
        go_wp2
        go_ret2
        exact ⟨HloadR.bad HBD.out, HB6.out⟩
    ·obtain rfl : j = len := by omega
     have HI2 : Hid (LdI w wr b sp d lim q0 q1 (kk + 1) 0) := HJ.out.next hlt (by have := HX.out.2.2; omega)
     have HOK2 : Hid (∀ i < kk + 1, RowOk (topD d) (rowOf q0 q1 i)) := fun i hi => by
      rcases (by omega : i < kk ∨ i = kk) with h | rfl
      ·exact HOK.out i h
      ·have := HIN.out.ok
       rwa [List.take_of_length_le (by have := HX.out.2.2; omega)] at this
     clear HJ HOK HIN HX hix
     go_wp2
     go_roundw
     case rel => exact ⟨kk + 1, by omega, by simp, HI2, HOK2⟩
     case measure => simp [intOf]; omega
  ·obtain rfl : kk = 2 := by omega
   obtain ⟨c0, c1, S0, S1, hH, hW⟩ := HI.out.st
   have hH' : HdB wr b sp c0 c1 S0 S1 d lim q0 q1 0 0 0 := by unfold rowK at hH; simpa using hH
   have HW := Lib.hid hW
   have HR0 : Hid (RowOk (topD d) q0) := HOK.out 0 (by omega)
   have HR1 : Hid (RowOk (topD d) q1) := HOK.out 1 (by omega)
   have H1 : Hid (HdB wr.drew b sp c0 c1 S0 S1 d lim q0 q1 0 0 0) := hH'.below (Below.refl _ _).drew
   have HB1 : Hid (Below w.heap.size w wr.drew) := HI.out.bl.drew
   have HZS : Hid (wr.heap.size = wr.drew.heap.size) := rfl
   obtain ⟨T0, hT0⟩ : ∃ t, sumP q0 = t := ⟨_, rfl⟩
   obtain ⟨T1, hT1⟩ : ∃ t, sumP q1 = t := ⟨_, rfl⟩
   have HT : Hid ((0 ≤ T0 ∧ T0 ≤ 9223372036854775807) ∧ (0 ≤ T1 ∧ T1 ≤ 9223372036854775807)) := by
    have a0 := sumP_nonneg HR0.out.gd.pos
    have a1 := sumP_nonneg HR1.out.gd.pos
    have a2 := HR0.out.sm
    have a3 := HR1.out.sm
    rw [hT0] at a0 a2
    rw [hT1] at a1 a3
    exact ⟨⟨a0, a2⟩, a1, a3⟩
   have HT0 := Lib.hid hT0
   have HT1 := Lib.hid hT1
   clear HI HOK hH hH' hW hT0 hT1 hlt hkk
   go_wp2
   obtain ⟨W4, hW4⟩ : ∃ W, wr.drew = W := ⟨_, rfl⟩
   rw [hW4] at H1 HB1 HZS
   have s4 := H1.out.at'
   have hHeld : HeldS (HdW b #[.int .i64 d, .int .u64 lim, .pointer (some ⟨sp, 0, none⟩), .pointer (some ⟨c0, 0, none⟩), .pointer (some ⟨c1, 0, none⟩), .int .u64 0, .int .i64 0, .int .i64 0]) W4 := HeldS.mk' s4
   haveI hne : Nonempty (Held (HdW b #[.int .i64 d, .int .u64 lim, .pointer (some ⟨sp, 0, none⟩), .pointer (some ⟨c0, 0, none⟩), .pointer (some ⟨c1, 0, none⟩), .int .u64 0, .int .i64 0, .int .i64 0])) := ⟨⟨W4, s4⟩⟩
   have hfar := fun v : Held (HdW b #[.int .i64 d, .int .u64 lim, .pointer (some ⟨sp, 0, none⟩), .pointer (some ⟨c0, 0, none⟩), .pointer (some ⟨c1, 0, none⟩), .int .u64 0, .int .i64 0, .int .i64 0]) => v.held.at.eight
   refine wp_region_noPanic ?_
   refine wp_region_held_drew (S := HeldS (HdW b #[.int .i64 d, .int .u64 lim, .pointer (some ⟨sp, 0, none⟩), .pointer (some ⟨c0, 0, none⟩), .pointer (some ⟨c1, 0, none⟩), .int .u64 0, .int .i64 0, .int .i64 0])) (by kernel_rfl) (by rw [hW4]; exact hHeld) (fun _ => ?_)
   rw [hW4]
   clear hW4
   refine wpAnyH_run0 [true, true, true, true, true, false, true, true, true, true, true, false, true] 9 (by kernel_rfl) (by kernel_rfl) (fun _ _ _ _ h => h) (by kernel_rfl) hHeld ?_
   simp only [runOps_true, runOps_false, runOps_nil]
   repeat (first | go_big_quiet_skip | (go_big_quiet_want; go_big_quiet_op; go_big_quiet_on))
   refine wpQuiet_nil ?_
   refine wpAnyH_ready (rs := [5]) (by kernel_rfl) (by simp) ?_
   refine AllReadyH.cons rfl (fun K hK => ?_) AllReadyH.nil
   go_simp
   go_wp2_with (go_at_call 106; refine (stotal_any c0 S0 4096 q0 W4 H1.out.s0).mono ?_; rintro e w5 ⟨rfl, rfl⟩; rw [HT0.out])
   refine hK.out _ _ ?_ (fun hHeld => ?_)
   clear hK K
   ·exact HeldS.mk' s4
   refine wpAnyH_ready (rs := [11]) (by kernel_rfl) (by simp) ?_
   refine AllReadyH.cons rfl (fun K hK => ?_) AllReadyH.nil
   go_simp
   go_wp2_with (go_at_call 106; refine (stotal_any c1 S1 4096 q1 W4 H1.out.s1).mono ?_; rintro e w5 ⟨rfl, rfl⟩; rw [HT1.out])
   refine hK.out _ _ ?_ (fun hHeld => ?_)
   clear hK K
   ·exact HeldS.mk' s4
   have hba : Below W4.heap.size W4 (W4.alloc (.cells #[.int .u64 T0, .int .u64 T1, .int .u64 zero] 23)) := (Below.refl _ _).alloc (Nat.le_refl _) _
   have a5 := At.new W4 #[.int .u64 T0, .int .u64 T1, .int .u64 zero] 23
   have s5 := s4.below hba
   have H5 := Lib.hid (H1.out.below hba)
   have HB5 := Lib.hid (keep1 HB1.out hba)
   have HZ5 : Hid (wr.heap.size ≤ (W4.alloc (.cells #[.int .u64 T0, .int .u64 T1, .int .u64 zero] 23)).heap.size) := by have := HZS.out; have := hba.size; show _ ≤ _; omega
   refine wpAnyH_ready (rs := [13]) (by kernel_rfl) (by simp) ?_
   refine AllReadyH.cons rfl (fun K hK => ?_) (AllReadyH.nil)
   go_simp
   go_wp2
   refine hK.out _ _ (HeldS.mk' s5) (fun hHeld => ?_)
   clear hK K hba
   obtain ⟨g5, hg5⟩ : ∃ g, W4.heap.size = g := ⟨_, rfl⟩
   obtain ⟨W5, hW5⟩ : ∃ W, W4.alloc (.cells #[.int .u64 T0, .int .u64 T1, .int .u64 zero] 23) = W := ⟨_, rfl⟩
   rw [hW5] at a5 s5 H5 HB5 HZ5 hHeld
   rw [hg5] at a5
   simp only [hW5, hg5]
   have c50 : W5.cell? ⟨g5, 0, none⟩ = some (.int .u64 T0) := a5.cell rfl
   have c51 : W5.cell? ⟨g5, 1, none⟩ = some (.int .u64 T1) := a5.cell rfl
   have c52 : W5.cell? ⟨g5, 2, none⟩ = some (.int .u64 zero) := a5.cell rfl
   have HP3 := Lib.hid (plus3_any g5 T0 T1 zero W5 ⟨HT.out.1.1, by have := HT.out.1.2; omega⟩ ⟨HT.out.2.1, by have := HT.out.2.2; omega⟩ HZ.out.1 c50 c51 c52)
   clear hW5 hg5 a5 c50 c51 c52 s4 H1 HB1 HZS
   refine wpAnyH_ready (rs := [14]) (by kernel_rfl) (by simp) ?_
   refine AllReadyH.cons rfl (fun K hK => ?_) AllReadyH.nil
   go_simp
   go_wp2_with (go_at_call 102; refine HP3.out.mono ?_; rintro e w6 ⟨rfl, rfl⟩)
   refine hK.out _ _ ?_ (fun hHeld => ?_)
   clear hK K
   ·exact HeldS.mk' s5
   clear HP3
   refine wpAnyH_run0 [false, false, false, false, false, false, false, false, false, false, false, false, false, false, false, true, true, true, true, true] 0 (by kernel_rfl) (by kernel_rfl) (fun _ _ _ _ h => h) (by kernel_rfl) hHeld ?_
   simp only [runOps_true, runOps_false, runOps_nil]
   repeat (first | go_big_quiet_skip | (go_big_quiet_want; go_big_quiet_op; go_big_quiet_on))
   refine wpQuiet_nil ?_
   refine wpAnyH_done (by kernel_rfl) ?_ _
   refine NoPanic.normal ?_
   clear hfar hne hHeld
   by_cases hs : T0 + T1 + zero ≤ 9223372036854775807
   ·rw [decide_eq_true hs]
    have HS := Lib.hid hs
    have H6 := Lib.hid (H5.out.set (zero' := zero) (least' := 0) (most' := 0) 5 (.int .u64 zero) (H5.out.at'.set_any 5 _ rfl))
    have HB6 : Hid (Below w.heap.size w (W5.setCell ⟨b, 5, none⟩ (.int .u64 zero))) := HB5.out.setCell (HW.out b (by simp)).1 _
    have HZ6 : Hid (wr.heap.size ≤ (W5.setCell ⟨b, 5, none⟩ (.int .u64 zero)).heap.size) := by have := HZ5.out; show _ ≤ _; simpa [World.setCell] using this
    have f5 := s5.eight
    have l5 := s5.lt
    obtain ⟨pq, hpq⟩ : ∃ p, plus3Q T0 T1 zero = p := ⟨_, rfl⟩
    rw [hpq]
    clear hs hpq H5 HB5 HZ5 s5
    by_cases hle : hi < lo
    ·have HBD : Hid (¬ HloadOk d q0 q1 zero lo hi) := fun k => by have := k.le; omega
     have hd : decide (hi < lo) = true := decide_eq_true hle
     clear hle
     go_wp2
     go_ret2
     exact ⟨HloadR.bad HBD.out, HB6.out⟩
    ·have HLE : Hid (lo ≤ hi) := by show _ ≤ _; omega
     have hd : decide (hi < lo) = false := decide_eq_false hle
     clear hle
     obtain ⟨t, htt⟩ : ∃ t, T0 + zero + T1 = t := ⟨_, rfl⟩
     have HTT := Lib.hid htt
     have HTOT := Lib.hid fun W (hb : Below (W5.setCell ⟨b, 5, none⟩ (.int .u64 zero)).heap.size (W5.setCell ⟨b, 5, none⟩ (.int .u64 zero)) W) => htotal_at b sp c0 c1 S0 S1 d lim q0 q1 zero 0 0 W (H6.out.below hb) HZ.out.1.1 (by rw [HT0.out, HT1.out]; have := HS.out; omega)
     rw [HT0.out, HT1.out, htt] at HTOT
     clear htt
     go_wp2_with fail
     refine (HTOT.out _ (Below.refl _ _)).mono ?_
     rintro e w7 ⟨rfl, hb⟩
     have H7 := Lib.hid (H6.out.below hb)
     have HB7 := Lib.hid (keep1 HB6.out hb)
     have HZ7 : Hid (wr.heap.size ≤ w7.heap.size) := Nat.le_trans HZ6.out hb.size
     clear hb H6 HB6 HZ6 f5 l5 HTOT
     by_cases hbad : t = 0 ∧ (lo ≠ 0 ∨ hi ≠ 0)
     ·have HBD : Hid (¬ HloadOk d q0 q1 zero lo hi) := fun k => by
       have h0 := k.z (by rw [HT0.out, HT1.out]; have := HTT.out; omega)
       omega
      obtain ⟨h0, h12⟩ := hbad
      rw [h0]
      clear h0
      by_cases hl0 : lo = 0
      ·have hh0 : hi ≠ 0 := by omega
       clear h12
       subst hl0
       go_wp2
       go_ret2
       exact ⟨HloadR.bad HBD.out, HB7.out⟩
      ·clear h12
       go_wp2
       go_ret2
       exact ⟨HloadR.bad HBD.out, HB7.out⟩
     ·have HG : Hid (HloadOk d q0 q1 zero lo hi) := ⟨HR0.out, HR1.out, by rw [HT0.out, HT1.out]; exact HS.out, HLE.out, fun h0 => by
       rw [HT0.out, HT1.out] at h0
       have := HTT.out
       by_cases e1 : lo = 0
       ·by_cases e2 : hi = 0
        ·exact ⟨e1, e2⟩
        ·exact absurd ⟨by omega, .inr e2⟩ hbad
       ·exact absurd ⟨by omega, .inl e1⟩ hbad⟩
      have H8 := Lib.hid (H7.out.set (zero' := zero) (least' := lo) (most' := 0) 6 (.int .i64 lo) (H7.out.at'.set_any 6 _ rfl))
      have H9 := Lib.hid (H8.out.set (zero' := zero) (least' := lo) (most' := hi) 7 (.int .i64 hi) (H8.out.at'.set_any 7 _ rfl))
      have HB9 : Hid (Below w.heap.size w ((w7.setCell ⟨b, 6, none⟩ (.int .i64 lo)).setCell ⟨b, 7, none⟩ (.int .i64 hi))) := (HB7.out.setCell (HW.out b (by simp)).1 _).setCell (HW.out b (by simp)).1 _
      have HZ9 : Hid (wr.heap.size ≤ ((w7.setCell ⟨b, 6, none⟩ (.int .i64 lo)).setCell ⟨b, 7, none⟩ (.int .i64 hi)).heap.size) := by have := HZ7.out; show _ ≤ _; simpa [World.setCell] using this
      have HFIN : Hid (HloadR d lim q0 q1 zero lo hi w (.returned (.tuple #[.pointer (some ⟨b, 0, none⟩), .int .i64 0])) ((w7.setCell ⟨b, 6, none⟩ (.int .i64 lo)).setCell ⟨b, 7, none⟩ (.int .i64 hi))) :=
       .inl ⟨HG.out, b, _, rfl, HW.out.mono HZ9.out, sp, c0, c1, S0, S1, rfl, H9.out⟩
      have f7 := H7.out.at'.eight
      have l7 := H7.out.at'.lt
      clear H7 H8 H9 HB7 HZ7 HZ9 HG
      by_cases ht0 : t = 0
      ·have hl0 : lo = 0 := by
        by_cases e : lo = 0
        ·exact e
        ·exact absurd ⟨ht0, .inl e⟩ hbad
       have hh0 : hi = 0 := by
        by_cases e : hi = 0
        ·exact e
        ·exact absurd ⟨ht0, .inr e⟩ hbad
       rw [ht0]
       clear hbad ht0 HTT
       have HL0 := Lib.hid hl0
       have HH0 := Lib.hid hh0
       have d1 : (lo == 0) = true := beq_iff_eq.2 hl0
       have d2 : (hi == 0) = true := beq_iff_eq.2 hh0
       have d3 : (lo != 0) = false := by rw [hl0]; rfl
       have d4 : (hi != 0) = false := by rw [hh0]; rfl
       clear hl0 hh0
       go_wp2
       go_ret2
       exact ⟨HFIN.out, HB9.out⟩
      ·clear hbad HTT
       go_wp2
       go_ret2
       exact ⟨HFIN.out, HB9.out⟩
   ·rw [decide_eq_false hs]
    have HBD : Hid (¬ HloadOk d q0 q1 zero lo hi) := fun k => by have := k.sm; rw [HT0.out, HT1.out] at this; exact hs this
    have HB6 : Hid (Below w.heap.size w (W5.setCell ⟨b, 5, none⟩ (.int .u64 zero))) := HB5.out.setCell (HW.out b (by simp)).1 _
    obtain ⟨pq, hpq⟩ : ∃ p, plus3Q T0 T1 zero = p := ⟨_, rfl⟩
    rw [hpq]
    have f5 := s5.eight
    have l5 := s5.lt
    clear hs hpq H5 HB5 HZ5 s5
    go_wp2
    go_ret2
    exact ⟨HloadR.bad HBD.out, HB6.out⟩
end Go.Proofs.YtlbnlmhcpephbaaGreatDoor.Hh
