/- Texts of this claim, joined, indents halved: Top4, TabAll, CloseAll, RelP, Gap. -/
import Derived.Test.YtlbnlmhcpephbaaGreatDoorProg
import Derived.Test.YtlbnlmhcpephbaaGreatDoorKc22
namespace Go.Proofs.YtlbnlmhcpephbaaGreatDoor
open Go.RowKit
theorem RdI.at {w : World} {A : Option Addr} {xs : List Int} (h : RdI w A xs) (j : Nat) (hj : j < xs.length) : ∃ g o, A = some ⟨g, o, none⟩ ∧ g < w.heap.size ∧ w.cell? ⟨g, o + j, none⟩ = some (.int .i64 (xs[j]'hj)) := by
 obtain ⟨g, o, e, hg, hc⟩ := h j (.int .i64 (xs[j]'hj)) (by rw [List.getElem?_map, List.getElem?_eq_getElem hj]; rfl)
 exact ⟨g, o, e, hg, hc⟩
def TwoC (g i : Nat) (x y : Nat) (W : World) : Prop := W.cell? ⟨g, i, none⟩ = some (.pointer (some ⟨x, 0, none⟩)) ∧ W.cell? ⟨g, i + 1, none⟩ = some (.pointer (some ⟨y, 0, none⟩))
theorem TwoC.cells {g i x y : Nat} {W : World} (h : TwoC g i x y W) : W.cell? ⟨g, i, none⟩ = some (.pointer (some ⟨x, 0, none⟩)) ∧ W.cell? ⟨g, i + 1, none⟩ = some (.pointer (some ⟨y, 0, none⟩)) := h
theorem split_two {α : Type} (its : List α) (k : Nat) (h : k + 1 < its.length) : ∃ xs x y zs, its = xs ++ x :: y :: zs ∧ xs.length = k := by
 refine ⟨its.take k, its[k]'(by omega), its[k + 1]'h, its.drop (k + 2), ?_, by rw [List.length_take]; omega⟩
 rw [← List.drop_eq_getElem_cons h, ← List.drop_eq_getElem_cons (by omega), List.take_append_drop]
set_option maxRecDepth 100000 in
set_option maxHeartbeats 4000000 in
theorem tree_any {c : Cfg} {Sk : SkT} (K : KindC c Sk) (Al : Option Addr) (len cl : Nat) (ls : List Lf) (Ap : Option Addr) (m cp : Nat) (ps : List Int) (w : World) (hT : TensAt w) (hl : ls.length = len) (hR : RdL w Al ls) (hp : PlayC c ls) (hm : ps.length = m) (hm' : m ≤ 9223372036854775807) (hP : RdI w Ap ps) (hpb : ∀ p ∈ ps, -9223372036854775808 ≤ p ∧ p ≤ 9223372036854775807) :
  Calls Tryz.prog 10 #[c.val, .slice Al len cl, .slice Ap m cp] w fun e w' => TreeR Sk w e w' := by
 have HK : Hid (KindC c Sk) := K
 have HR := Lib.hid hR
 have HLN := Lib.hid hl
 have HPL := Lib.hid hp
 have HM := Lib.hid hm
 have HPS := Lib.hid hP
 have HPB := Lib.hid hpb
 have HT := Lib.hid hT
 have h12 : len ≤ 12 := by have := hp.len; omega
 have HMADE := Lib.hid fun xA n xc xv xb W h1 h2 h3 h4 h5 h6 => made_any K xA n xc xv xb W h1 h2 h3 h4 h5 h6
 obtain ⟨cv, hcv⟩ : ∃ v, c.val = v := ⟨_, rfl⟩
 rw [hcv] at HMADE ⊢
 have hcr : ∃ kd pn pd sd mo dg li de fa wi wo : Int, cv = .agg #[.int .i64 kd, .int .u64 pn, .int .u64 pd, .int .i64 sd, .int .i64 mo, .int .i64 dg, .int .u64 li, .int .i64 de, .int .i64 fa, .int .i64 wi, .int .u64 wo] := ⟨_, _, _, _, _, _, _, _, _, _, _, hcv.symm⟩
 obtain ⟨kd, pn, pd, sd, mo, dg, li, de, fa, wi, wo, rfl⟩ := hcr
 clear hcv hR hl hp hm hP hpb hT K
 have ac := At.new w #[.int .i64 kd, .int .u64 pn, .int .u64 pd, .int .i64 sd, .int .i64 mo, .int .i64 dg, .int .u64 li, .int .i64 de, .int .i64 fa, .int .i64 wi, .int .u64 wo] 28
 have hba : Below w.heap.size w (w.alloc (.cells #[.int .i64 kd, .int .u64 pn, .int .u64 pd, .int .i64 sd, .int .i64 mo, .int .i64 dg, .int .u64 li, .int .i64 de, .int .i64 fa, .int .i64 wi, .int .u64 wo] 28)) := (Below.refl _ _).alloc (Nat.le_refl _) _
 go_enter Tryz.func10, Tryz.ntmps10
 go_wp2_with fail
 obtain ⟨W1, hW1⟩ : ∃ W, w.alloc (.cells #[.int .i64 kd, .int .u64 pn, .int .u64 pd, .int .i64 sd, .int .i64 mo, .int .i64 dg, .int .u64 li, .int .i64 de, .int .i64 fa, .int .i64 wi, .int .u64 wo] 28) = W := ⟨_, rfl⟩
 obtain ⟨cb, hcb⟩ : ∃ r, w.heap.size = r := ⟨_, rfl⟩
 rw [hW1] at hba ac
 rw [hcb] at ac
 simp only [hW1, hcb]
 have HB1 := Lib.hid hba
 have HAC := Lib.hid ac
 clear hW1 hcb hba ac
 have HJ0 : Hid (TreeI Sk W1 W1 [] none 0 none 0 [] 0 0) := ⟨TreeJ.nil _, rfl, rfl, fun x hx => by simp at hx, fun x hx => by simp at hx, rfl⟩
 have HFAIL : Hid (∀ W v0 v1, Below W1.heap.size W1 W → TreeR Sk w (.returned (.tuple #[v0, v1, .bool false])) W) := fun W v0 v1 hb => .inl ⟨keep1 HB1.out hb, v0, v1, rfl⟩
 go_loopw [9, 10, 20] (fun row all i wr => ∃ k : Nat, k ≤ len ∧ i = .int .i64 k ∧ ∃ its Ar cr Aa ca n al, row = .slice Ar k cr ∧ all = .slice Aa n ca ∧ n ≤ 30 * k ∧ Hid (TreeI Sk W1 wr its Ar cr Aa ca al k n)) (fun _ _ i _ => len - (intOf i).toNat)
 case atStart => exact ⟨0, by omega, rfl, [], none, 0, none, 0, 0, [], rfl, rfl, by omega, HJ0⟩
 case round =>
  obtain ⟨k, hk, rfl, its, Ar, cr, Aa, ca, n, al, rfl, rfl, hnk, H⟩ := hrel
  clear HJ0
  by_cases hlt : k < len
  ·have HKL : Hid (k < ls.length) := by have := HLN.out; show _ < _; omega
   obtain ⟨g, o, rfl, hg, c1, c2⟩ := (HR.out.below (keep1 HB1.out H.out.tj.bl)).at k HKL.out
   have HXM : Hid ((ls[k]'HKL.out) ∈ ls) := List.getElem_mem _
   have HXO := Lib.hid ((HR.out.below (keep1 HB1.out H.out.tj.bl)).2 _ HXM.out)
   have HXF := Lib.hid (HPL.out.few _ HXM.out)
   obtain ⟨⟨xA, xc, xv, xb⟩, hx⟩ : ∃ x, ls[k]'HKL.out = x := ⟨_, rfl⟩
   rw [hx] at c1 c2 HXO HXF
   dsimp only at c1 c2 HXF
   have HXR : Hid (RdP wr xA xv) := HXO.out.1
   have HXK : Hid (okP xv) := HXO.out.2.1
   obtain ⟨xn, hxn⟩ : ∃ n, xv.length = n := ⟨_, rfl⟩
   have HXN := Lib.hid hxn
   rw [hxn] at c1
   have hx30 : xn ≤ 30 := by have := HXF.out.1; rw [← HXN.out]; exact this
   have hbe : Below wr.heap.size wr (wr.alloc (.cells #[.slice xA xn xc, .bool xb] 70)) := (Below.refl _ _).alloc (Nat.le_refl _) _
   have aL := At.new wr #[.slice xA xn xc, .bool xb] 70
   have H1 : Hid (TreeJ Sk W1 (wr.alloc (.cells #[.slice xA xn xc, .bool xb] 70)) its Ar cr Aa ca al) := H.out.tj.below HK.out hbe
   have HXR1 := Lib.hid (HXR.out.below hbe)
   have a1 := (HAC.out.below H.out.tj.bl).below hbe
   have f1 := a1.el
   have l1 := a1.lt
   have g1 := aL.two
   have m1 := aL.lt
   clear hx hxn hbe HXO HXR a1 aL
   go_wp2_with fail
   obtain ⟨W2, hW2⟩ : ∃ W, wr.alloc (.cells #[.slice xA xn xc, .bool xb] 70) = W := ⟨_, rfl⟩
   obtain ⟨lb, hlb⟩ : ∃ r, wr.heap.size = r := ⟨_, rfl⟩
   rw [hW2] at H1 HXR1 f1 l1 g1 m1
   rw [hlb] at g1 m1
   simp only [hW2, hlb]
   clear hW2 hlb c1 c2 hg
   refine (HMADE.out xA xn xc xv xb W2 (HT.out.below (keep1 HB1.out H1.out.bl)) HXR1.out HXK.out HXN.out hx30 HXF.out.2).mono ?_
   rintro e w3 (⟨hb, v0, v1, rfl⟩ | ⟨b, S, A, cap, q, l, rfl, hq30, hJ⟩)
   ·have HF := Lib.hid (HFAIL.out w3 (.pointer none) (.slice none 0 0) (keep1 H1.out.bl hb))
    clear hb f1 l1 g1 m1
    go_wp2
    go_ret3
    exact HF.out
   ·have HJ := Lib.hid hJ
    clear hJ f1 l1 g1 m1
    have hbe : Below w3.heap.size w3 (w3.alloc (.cells #[.pointer (some ⟨b, 0, none⟩)] 34)) := (Below.refl _ _).alloc (Nat.le_refl _) _
    have HJ1 : Hid (MadeJ Sk W2 (w3.alloc (.cells #[.pointer (some ⟨b, 0, none⟩)] 34)) b S A cap q l) := HJ.out.below HK.out hbe
    have HPT := Lib.hid (rdT_new w3 b)
    have HB3 := Lib.hid HJ1.out.bl
    have HRW := Lib.hid ((H1.out.below HK.out HB3.out).row)
    have HBS : Hid ((its.map (·.b)).length = k) := by rw [List.length_map]; exact H.out.len
    have HZ : Hid (W1.heap.size ≤ (w3.alloc (.cells #[.pointer (some ⟨b, 0, none⟩)] 34)).heap.size) := Nat.le_trans H1.out.bl.size HB3.out.size
    clear hbe HJ
    have HSTEP : Hid (∀ (Ar' : Option Addr) (cr' : Nat) (w5 : World), Hid (OwnT W1.heap.size w5 Ar' cr' (its.map (·.b) ++ [b])) → Frame (blk Ar) (w3.alloc (.cells #[.pointer (some ⟨b, 0, none⟩)] 34)) w5 → (∀ k ∈ blk Ar', k ∈ blk Ar ∨ (w3.alloc (.cells #[.pointer (some ⟨b, 0, none⟩)] 34)).heap.size ≤ k) → TreeJ Sk W1 w5 (its ++ [⟨b, S, l⟩]) Ar' cr' Aa ca al ∧ RdP w5 A l) := fun Ar' cr' w5 HO5 hF5 hB5 =>
     ⟨H1.out.addRow HK.out (x := ⟨b, S, l⟩) HB3.out HJ1.out.sk HJ1.out.ws HO5.out hF5 hB5, hF5.rd HJ1.out.own.rd fun a ha hm => by
      have h1 := (HJ1.out.own.blk_le a.block (by rw [ha]; simp [blk])).1
      have h2 := (H1.out.row.base_le a.block hm).2
      omega⟩
    go_wp2_with (first | (at_builtin; refine wpList_append_ptrF rfl _ _ rfl W1.heap.size Ar cr k (its.map (·.b)) rfl HBS.out HRW.out (some ⟨w3.heap.size, 0, none⟩) 1 1 [b] rfl rfl HPT.out (by omega) HZ.out ?_; intro Ar' cr' w5 HO5 hF5 hB5; have H5 := Lib.hid (HSTEP.out Ar' cr' w5 HO5 hF5 hB5); clear HO5 hF5 hB5) | (at_builtin; refine wpList_append_valsF rfl _ _ rfl W1.heap.size Aa ca n al rfl H.out.n H5.out.1.vals A q cap l rfl HJ1.out.len H5.out.2 (by omega) H5.out.1.bl.size ?_; intro Aa' ca' w6 HO6 hF6 hB6) | fail)
    have H6 : Hid (TreeI Sk W1 w6 (its ++ [⟨b, S, l⟩]) Ar' cr' Aa' ca' (al ++ l) (k + 1) (n + q)) :=
     ⟨H5.out.1.addVals HK.out HO6.out hF6 hB6, by rw [List.length_append, H.out.len]; rfl, by rw [List.flatMap_append, ← H.out.eq]; simp, fun v hv => by
      rcases List.mem_append.1 hv with h | h
      ·exact H.out.ok v h
      ·exact HJ1.out.lok.ok v h, fun v hv => by
      rcases List.mem_append.1 hv with h | h
      ·exact H.out.pos v h
      ·exact HJ1.out.lok.pos v h, by rw [List.length_append, H.out.n, HJ1.out.len]⟩
    clear HO6 hF6 hB6 H5 HJ1 H1 H HSTEP HPT HRW HZ
    go_wp2
    go_roundw
    case rel => exact ⟨k + 1, by omega, by simp, _, Ar', cr', Aa', ca', n + q, _, rfl, rfl, by omega, H6⟩
    case measure => simp [intOf]; omega
  ·obtain rfl : k = len := by omega
   have HALL : Hid (LOk al) := ⟨H.out.ok, H.out.pos, by have := H.out.n; omega⟩
   have HNN := Lib.hid H.out.n
   have H0 : Hid (∃ its', TreeJ Sk W1 wr its' Ar cr Aa ca al ∧ its'.length = k ∧ its'.flatMap (·.l) = al) := ⟨its, H.out.tj, H.out.len, H.out.eq.symm⟩
   clear hlt H
   obtain ⟨wo', hwo⟩ : ∃ wo' : World, wo' = wr := ⟨_, rfl⟩
   go_wp2
   go_loopw [9, 16] (fun row kk wi => ∃ n j : Nat, ∃ Ar cr, row = .slice Ar n cr ∧ kk = .int .i64 j ∧ n + j ≤ 12 ∧ Hid (∃ its', TreeJ Sk W1 wi its' Ar cr Aa ca al ∧ its'.length = n ∧ its'.flatMap (·.l) = al)) (fun row _ _ => lenV row)
   case atStart => exact ⟨k, 0, Ar, cr, rfl, rfl, by omega, H0⟩
   case round =>
    obtain ⟨nn, j, Ar2, cr2, rfl, rfl, hnj, H⟩ := hrel
    clear H0
    by_cases hgt : 1 < nn
    ·have hd : decide ((1 : Int) < nn) = true := decide_eq_true (by omega)
     have hd' : decide (1 < nn) = true := decide_eq_true hgt
     have HGT := Lib.hid hgt
     have hn1 : IntKind.i64.wrap ((nn : Int) - 1) = ((nn - 1 : Nat) : Int) := by simp only [IntKind.wrap_i64]; omega
     have hn2 : IntKind.u64.wrap ((nn - 1 : Nat) : Int) = ((nn - 1 : Nat) : Int) := by simp only [IntKind.wrap_u64]; omega
     go_upto_if 49 with fail
     go_cut [17] (fun v wc => ∃ p : Nat, p + 1 < nn ∧ v = .int .i64 (p : Int) ∧ wr = wc)
     case first =>
      by_cases hjm : j < m
      ·have HPJ : Hid (j < ps.length) := by have := HM.out; show _ < _; omega
       have HBW : Hid (Below W1.heap.size W1 wr) := by obtain ⟨its', h, _⟩ := H.out; exact h.bl
       obtain ⟨g, o, rfl, hg, c1⟩ := (HPS.out.below (keep1 HB1.out HBW.out)).at j HPJ.out
       have HPX := Lib.hid (HPB.out _ (List.getElem_mem HPJ.out))
       obtain ⟨x, hx⟩ : ∃ x, ps[j]'HPJ.out = x := ⟨_, rfl⟩
       rw [hx] at c1 HPX
       have hr0 : 0 ≤ IntKind.u64.wrap x ∧ IntKind.u64.wrap x < 18446744073709551616 := by simp only [IntKind.wrap_u64]; omega
       obtain ⟨y, hy⟩ : ∃ y, IntKind.u64.wrap x = y := ⟨_, rfl⟩
       rw [hy] at hr0
       have hjm' : (j : Int) < m := by omega
       clear hx
       have hq : ∃ q : Nat, q + 1 < nn ∧ wrap64 (y % ((nn - 1 : Nat) : Int)) = (q : Int) := by
        have h1 := Int.emod_nonneg y (show ((nn - 1 : Nat) : Int) ≠ 0 by omega)
        have h2 := Int.emod_lt_of_pos y (show 0 < ((nn - 1 : Nat) : Int) by omega)
        obtain ⟨z, hz⟩ : ∃ z, y % ((nn - 1 : Nat) : Int) = z := ⟨_, rfl⟩
        rw [hz] at h1 h2 ⊢
        refine ⟨z.toNat, by omega, ?_⟩
        unfold wrap64
        omega
       obtain ⟨q, hq1, hq2⟩ := hq
       have HQ1 := Lib.hid hq1
       clear hq1
       go_wp2
       go_meet
       case rel => exact ⟨q, HQ1.out, by rw [hq2], rfl⟩
      ·have hjm' : ¬ (j : Int) < m := by omega
       go_wp2
       go_meet
       case rel => exact ⟨0, HGT.out, rfl, rfl⟩
     case rest =>
      obtain ⟨p, hp, rfl, rfl⟩ := hcut
      clear hn1 hn2 hd hd' hgt
      obtain ⟨its', hJ, hlen, hfl⟩ := H.out
      obtain ⟨xs, x, y, zs, rfl, hxs⟩ := split_two its' p (by omega)
      have hrd := hJ.row.rd
      have hbl : ((xs ++ x :: y :: zs).map (·.b)).length = nn := by rw [List.length_map]; exact hlen
      obtain ⟨g2, o2, hA2, _, hc1⟩ := hrd.at p (by omega)
      obtain ⟨g3, o3, hA3, _, hc2⟩ := hrd.at (p + 1) (by omega)
      have hz := hJ.row.zero _ hA2
      rw [hA2] at hA3
      simp only [Option.some.injEq, Addr.mk.injEq, and_true, true_and] at hA3 hz
      obtain ⟨rfl, rfl⟩ := hA3
      subst hz
      subst hA2
      have e1 : ((xs ++ x :: y :: zs).map (·.b))[p]'(by omega) = x.b := by simp [List.getElem_append_right, hxs]
      have e2 : ((xs ++ x :: y :: zs).map (·.b))[p + 1]'(by omega) = y.b := by simp [List.getElem_append_right, hxs]
      rw [e1, Nat.zero_add] at hc1
      rw [e2, Nat.zero_add] at hc2
      have hcap := hJ.row.len_cap
      rw [hbl] at hcap
      have HJ := Lib.hid hJ
      have HLX := Lib.hid (And.intro hxs hlen)
      have HFL := Lib.hid hfl
      have hTC : TwoC g2 p x.b y.b wr.drew := ⟨hc1, hc2⟩
      have HLOX : Hid (LOk (x.l ++ y.l)) := by
       have hsub : ∀ v ∈ x.l ++ y.l, v ∈ al := fun v hv => by
        rw [← hfl]
        simp only [List.flatMap_append, List.flatMap_cons, List.mem_append] at hv ⊢
        rcases hv with h | h
        ·exact .inr (.inl h)
        ·exact .inr (.inr (.inl h))
       refine ⟨fun v hv => HALL.out.ok v (hsub v hv), fun v hv => HALL.out.pos v (hsub v hv), ?_⟩
       have h1 := HALL.out.len
       rw [← hfl] at h1
       simp only [List.flatMap_append, List.flatMap_cons, List.length_append] at h1 ⊢
       omega
      have HJD := Lib.hid (hJ.below HK.out (Below.refl _ _).drew)
      have HAPT : Hid (Apart x.S y.S) := by
       obtain ⟨_, p2, _⟩ := List.pairwise_append.1 hJ.apr
       exact (List.pairwise_cons.1 p2).1 y (by simp)
      have HJN := Lib.hid (HK.out.join x.b y.b x.S y.S x.l y.l _ (HJD.out.sk x (by simp)) (HJD.out.sk y (by simp)) HAPT.out HLOX.out)
      have HGX : Hid (g2 ∉ x.S) := fun hm => hJ.rr x (by simp) g2 hm (by simp [blk])
      clear hJ hlen hfl hxs hrd hbl hc1 hc2 e1 e2 H HGT
      haveI hne : Nonempty (Held (TwoC g2 p x.b y.b)) := ⟨⟨wr.drew, hTC⟩⟩
      have hfar1 := fun v : Held (TwoC g2 p x.b y.b) => v.held.cells
      have hp0 : (0 : Int) ≤ p := by omega
      have hp1 : (p : Int) < nn := by omega
      have hp2 : IntKind.i64.wrap ((p : Int) + 1) = ((p + 1 : Nat) : Int) := by simp only [IntKind.wrap_i64]; omega
      have hp3 : (0 : Int) ≤ ((p + 1 : Nat) : Int) := by omega
      have hp4 : ((p + 1 : Nat) : Int) < nn := by omega
      go_wp2_with fail
      refine wp_region_noPanic ?_
      refine wp_region_held_drew (S := HeldS (TwoC g2 p x.b y.b)) (by kernel_rfl) (HeldS.mk' hTC) (fun hHeld => ?_)
      refine wpAnyH_run0 [true, true, true, true, true, true, true, true, true] 2 (by kernel_rfl) (by kernel_rfl) (fun _ _ _ _ h => h) (by kernel_rfl) hHeld ?_
      simp only [runOps_true, runOps_false, runOps_nil]
      repeat (first | go_big_quiet_skip | (go_big_quiet_want; go_big_quiet_op; go_big_quiet_on))
      refine wpQuiet_nil ?_
      clear hfar1
      refine wpAnyH_ready (rs := [9]) (by kernel_rfl) (by simp) ?_
      refine AllReadyH.cons rfl (fun K hK => ?_) AllReadyH.nil
      go_simp
      go_wp2_with (go_at_call 28; refine HJN.out.mono ?_; rintro e w4 ⟨f, rfl, hcase⟩)
      refine hK.out _ _ ?_ (fun hHeld => ?_)
      clear hK K
      ·have hF : Frame x.S wr.drew w4 := by
        rcases hcase with ⟨_, S', _, _, hF⟩ | ⟨_, hF⟩ <;> exact hF
       have hlt : g2 < wr.heap.size := (HJD.out.row.base_le g2 (by simp [blk])).2
       exact HeldS.mk' ⟨(World.cell?_of_block (w := wr.drew) (hF.block g2 hlt HGX.out)).trans hTC.1, (World.cell?_of_block (w := wr.drew) (hF.block g2 hlt HGX.out)).trans hTC.2⟩
      rcases hcase with ⟨rfl, S', hg, hs, hF⟩ | ⟨hf, hF⟩
      rotate_left
      ·have hfn : (f != 0) = true := bne_iff_ne.2 hf
       have HF : Hid (TreeR Sk w (.returned (.tuple #[.pointer none, .slice none 0 0, .bool false])) w4) := HFAIL.out _ _ _ (hF.below' HJD.out.bl HJD.out.bl.size (HJD.out.ws x (by simp)))
       refine wpAnyH_run0 [false, false, false, false, false, false, false, false, false, false, true] 0 (by kernel_rfl) (by kernel_rfl) (fun _ _ _ _ h => h) (by kernel_rfl) hHeld ?_
       simp only [runOps_true, runOps_false, runOps_nil]
       repeat (first | go_big_quiet_skip | (go_big_quiet_want; go_big_quiet_op; go_big_quiet_on))
       refine wpQuiet_nil ?_
       refine wpAnyH_done (by kernel_rfl) ?_ _
       refine NoPanic.normal ?_
       clear hne hHeld hF hf
       go_wp2
       go_ret3
       exact HF.out
      refine wpAnyH_run0 [false, false, false, false, false, false, false, false, false, false, true] 0 (by kernel_rfl) (by kernel_rfl) (fun _ _ _ _ h => h) (by kernel_rfl) hHeld ?_
      simp only [runOps_true, runOps_false, runOps_nil]
      repeat (first | go_big_quiet_skip | (go_big_quiet_want; go_big_quiet_op; go_big_quiet_on))
      refine wpQuiet_nil ?_
      refine wpAnyH_done (by kernel_rfl) ?_ _
      refine NoPanic.normal ?_
      have HJ4 : Hid (TreeJ Sk W1 w4 (xs ++ ⟨x.b, S', x.l ++ y.l⟩ :: y :: zs) (some ⟨g2, 0, none⟩) cr2 Aa ca al) := HJD.out.joined HK.out hg hs hF
      clear hne hHeld hF hg hs hTC HJN HJD HAPT HLOX HGX HJ hp0 hp1 hp2 hp3 hp4
      have hp5 : IntKind.i64.wrap ((p : Int) + 1) = ((p + 1 : Nat) : Int) := by simp only [IntKind.wrap_i64]; omega
      have hp6 : IntKind.i64.wrap ((p : Int) + 2) = ((p + 2 : Nat) : Int) := by simp only [IntKind.wrap_i64]; omega
      have k1 : (0 : Int) ≤ ((p + 1 : Nat) : Int) := by omega
      have k2 : ((p + 1 : Nat) : Int) ≤ cr2 := by omega
      have k3 : (0 : Int) ≤ ((p + 2 : Nat) : Int) := by omega
      have k4 : ((p + 2 : Nat) : Int) ≤ nn := by omega
      have k5 : (nn : Int) ≤ cr2 := by omega
      have HCAP := Lib.hid hcap
      go_wp2_with fail
      have HJ5 := Lib.hid (HJ4.out.below HK.out (Below.refl _ _).drew)
      obtain ⟨W5, hW5⟩ : ∃ W, w4.drew = W := ⟨_, rfl⟩
      rw [hW5] at HJ5
      haveI hne : Nonempty (Held fun _ => True) := ⟨⟨W5, trivial⟩⟩
      refine wp_region_noPanic ?_
      refine wp_region_held_drew (S := HeldS fun _ => True) (by kernel_rfl) (HeldS.mk' trivial) (fun hHeld => ?_)
      rw [hW5] at hHeld ⊢
      clear hW5 HJ4
      refine wpAnyH_run0 [false, true, true, true, true, false, true, true, true, true] 4 (by kernel_rfl) (by kernel_rfl) (fun _ _ _ _ h => h) (by kernel_rfl) hHeld ?_
      simp only [runOps_true, runOps_false, runOps_nil]
      repeat (first | go_big_quiet_skip | (go_big_quiet_want; go_big_quiet_op; go_big_quiet_on))
      refine wpQuiet_nil ?_
      obtain ⟨o4, ho4, hR4⟩ : ∃ o4, (if cr2 = p + 2 then some (⟨g2, 0, none⟩ : Addr) else some ⟨g2, p + 2, none⟩) = some ⟨g2, o4, none⟩ ∧ RdT W5 (some ⟨g2, o4, none⟩) ((xs ++ (⟨x.b, S', x.l ++ y.l⟩ : It) :: y :: zs).map (·.b) |>.drop (p + 2)) := by
       by_cases hc : cr2 = p + 2
       ·rw [if_pos hc]
        have hd : ((xs ++ (⟨x.b, S', x.l ++ y.l⟩ : It) :: y :: zs).map (·.b)).drop (p + 2) = [] := List.drop_of_length_le (by have h1 := HLX.out.2; have := HCAP.out; simp only [List.length_map, List.length_append, List.length_cons] at h1 ⊢; omega)
        rw [hd]
        exact ⟨_, rfl, fun j u hj => by simp [ptrV] at hj⟩
       ·rw [if_neg hc]
        have := HJ5.out.row.rd.drop (p + 2)
        rw [Nat.zero_add] at this
        exact ⟨_, rfl, this⟩
      have HR4 := Lib.hid hR4
      have HR3 := Lib.hid (HJ5.out.row.rd.take (p + 1))
      clear hR4
      rw [ho4]
      have HOE := Lib.hid (OwnT.empty W5 W5.heap.size (Nat.le_refl _))
      have hbE : Below W5.heap.size W5 (W5.alloc (.cells #[] 34)) := (Below.refl _ _).alloc (Nat.le_refl _) _
      have HB6 := Lib.hid hbE
      have HZ6 : Hid ((W5.alloc (.cells #[] 34)).heap.size = W5.heap.size + 1) := by show _ = _; simp
      clear hbE ho4
      refine wpAnyH_ready (rs := [0]) (by kernel_rfl) (by simp) ?_
      refine AllReadyH.cons rfl (fun K hK => ?_) (AllReadyH.nil)
      go_simp
      go_wp2
      obtain ⟨W6, hW6⟩ : ∃ W, W5.alloc (.cells #[] 34) = W := ⟨_, rfl⟩
      obtain ⟨eB, heB⟩ : ∃ r, W5.heap.size = r := ⟨_, rfl⟩
      have HEB : Hid (W5.heap.size = eB) := heB
      rw [hW6, heB] at HOE HZ6
      rw [hW6] at HB6
      simp only [hW6, heB]
      clear hW6 heB
      refine hK.out _ _ (HeldS.mk' trivial) (fun hHeld => ?_)
      clear hK K
      refine wpAnyH_ready (rs := [5]) (by kernel_rfl) (by simp) ?_
      refine AllReadyH.cons rfl (fun K hK => ?_) (AllReadyH.nil)
      refine ite_of rfl ?_
      refine opwp_append_ptr _ _ rfl eB (some ⟨eB, 0, none⟩) 0 0 [] rfl rfl HOE.out ⟨g2, 0, none⟩ (p + 1) cr2 (((xs ++ (⟨x.b, S', x.l ++ y.l⟩ : It) :: y :: zs).map (·.b)).take (p + 1)) rfl (by have h1 := HLX.out.2; simp only [List.length_take, List.length_map, List.length_append, List.length_cons] at h1 ⊢; omega) (HR3.out.below HB6.out) (by omega) (by rw [HZ6.out]; omega) 77 rfl ?_
      intro A7 c7 W7 HO7 HG7
      simp only [List.setIfInBounds_toArray, List.set_cons_zero, List.set_cons_succ]
      have HB7 : Hid (Below W5.heap.size W5 W7) := HB6.out.grown HG7.out (by rw [HZ6.out, HEB.out]; omega) (fun k hk => by simp [Value.ownBlock] at hk; rw [HEB.out]; omega)
      refine hK.out _ _ (HeldS.mk' trivial) (fun hHeld => ?_)
      clear hK K
      refine wpAnyH_ready (rs := [10]) (by kernel_rfl) (by simp) ?_
      refine AllReadyH.cons rfl (fun K hK => ?_) (AllReadyH.nil)
      refine ite_of rfl ?_
      refine opwp_append_ptr _ _ rfl eB A7 c7 (0 + (p + 1)) ([] ++ ((xs ++ (⟨x.b, S', x.l ++ y.l⟩ : It) :: y :: zs).map (·.b)).take (p + 1)) rfl (by have h1 := HLX.out.2; simp only [List.nil_append, List.length_take, List.length_map, List.length_append, List.length_cons] at h1 ⊢; omega) HO7.out ⟨g2, o4, none⟩ (nn - (p + 2)) (cr2 - (p + 2)) (((xs ++ (⟨x.b, S', x.l ++ y.l⟩ : It) :: y :: zs).map (·.b)).drop (p + 2)) rfl (by have h1 := HLX.out.2; simp only [List.length_drop, List.length_map, List.length_append, List.length_cons] at h1 ⊢; omega) (HR4.out.below HB7.out) (by omega) (by rw [← HEB.out]; exact HB7.out.size) 82 rfl ?_
      intro A8 c8 W8 HO8 HG8
      simp only [List.setIfInBounds_toArray, List.set_cons_zero, List.set_cons_succ]
      have HB8 : Hid (Below W5.heap.size W5 W8) := HB7.out.grown HG8.out HB7.out.size (fun k hk => by
       cases A7 with
       | none => simp [Value.ownBlock] at hk
       | some a => simp only [Value.ownBlock, Option.some.injEq] at hk; have := (HO7.out.base_le a.block (by simp [blk])).1; rw [HEB.out]; omega)
      refine hK.out _ _ (HeldS.mk' trivial) (fun hHeld => ?_)
      clear hK K
      refine wpAnyH_run0 [false, false, false, false, false, false, false, false, false, false, false, true] 0 (by kernel_rfl) (by kernel_rfl) (fun _ _ _ _ h => h) (by kernel_rfl) hHeld ?_
      simp only [runOps_true, runOps_false, runOps_nil]
      repeat (first | go_big_quiet_skip | (go_big_quiet_want; go_big_quiet_op; go_big_quiet_on))
      refine wpQuiet_nil ?_
      refine wpAnyH_done (by kernel_rfl) ?_ _
      refine NoPanic.normal ?_
      have HROW : Hid (([] ++ ((xs ++ (⟨x.b, S', x.l ++ y.l⟩ : It) :: y :: zs).map (·.b)).take (p + 1)) ++ ((xs ++ (⟨x.b, S', x.l ++ y.l⟩ : It) :: y :: zs).map (·.b)).drop (p + 2) = (xs ++ (⟨x.b, S', x.l ++ y.l⟩ : It) :: zs).map (·.b)) := by
       have hx := HLX.out.1
       show _ = _
       have e1 : (xs ++ (⟨x.b, S', x.l ++ y.l⟩ : It) :: y :: zs).take (p + 1) = xs ++ [⟨x.b, S', x.l ++ y.l⟩] := by rw [← hx, List.take_append, List.take_of_length_le (by omega)]; simp
       have e2 : (xs ++ (⟨x.b, S', x.l ++ y.l⟩ : It) :: y :: zs).drop (p + 2) = zs := by rw [← hx]; simp [List.drop_append]
       rw [List.nil_append, ← List.map_take, ← List.map_drop, e1, e2]
       simp
      have HJ8 : Hid (∃ its', TreeJ Sk W1 W8 its' A8 c8 Aa ca al ∧ its'.length = 0 + (p + 1) + (nn - (p + 2)) ∧ its'.flatMap (·.l) = al) := by
       have ho := HO8.out
       rw [HROW.out, ← HEB.out] at ho
       refine ⟨_, HJ5.out.newRow HK.out ho HB8.out, ?_, ?_⟩
       ·have h1 := HLX.out.1
        have h2 := HLX.out.2
        simp only [List.length_append, List.length_cons] at h2 ⊢
        omega
       ·have h1 := HFL.out
        simp only [List.flatMap_append, List.flatMap_cons, List.append_assoc] at h1 ⊢
        exact h1
      clear hne hHeld HO7 HG7 HB6 HB7 HO8 HG8 HB8 HOE HZ6 HEB HR3 HR4 HJ5 HROW
      go_wp2
      go_roundw
      case rel => exact ⟨0 + (p + 1) + (nn - (p + 2)), j + 1, A8, c8, rfl, by simp, by omega, HJ8⟩
      case measure => simp [lenV]; omega
    ·have hd : decide ((1 : Int) < nn) = false := decide_eq_false (by omega)
     have hd' : decide (1 < nn) = false := decide_eq_false hgt
     by_cases hn0 : nn = 0
     ·subst hn0
      have HF : Hid (TreeR Sk w (.returned (.tuple #[.pointer none, .slice none 0 0, .bool false])) wr) := by
       obtain ⟨its', h, _⟩ := H.out
       exact HFAIL.out _ _ _ h.bl
      clear hgt
      go_wp2
      go_ret3
      exact HF.out
     ·obtain rfl : nn = 1 := by omega
      obtain ⟨its', hJ, hlen, hfl⟩ := H.out
      obtain ⟨x, rfl⟩ : ∃ x, its' = [x] := by
       match its', hlen with
       | [x], _ => exact ⟨x, rfl⟩
      obtain ⟨g2, o2, hA2, hg2, hc1⟩ := hJ.row.rd.at 0 (by simp)
      subst hA2
      have hal : al = x.l := by rw [← hfl]; simp
      have HF : Hid (TreeR Sk w (.returned (.tuple #[.pointer (some ⟨x.b, 0, none⟩), .slice Aa n ca, .bool true])) wr) := .inr ⟨x.b, x.S, Aa, ca, n, al, rfl, ⟨by rw [hal]; exact hJ.sk x (by simp), fun k hk => ⟨Nat.le_trans HB1.out.size (hJ.ws x (by simp) k hk).1, (hJ.ws x (by simp) k hk).2⟩, hJ.vals.mono HB1.out.size, hJ.ra x (by simp), HALL.out, HNN.out, keep1 HB1.out hJ.bl, HK.out.lt (hJ.sk x (by simp)) _ (HK.out.mem (hJ.sk x (by simp)))⟩⟩
      simp only [List.map_cons, List.map_nil, List.getElem_cons_zero, Nat.add_zero] at hc1
      clear hgt hn0 hJ hlen hfl hal H
      go_wp2
      go_ret3
      exact HF.out
end Go.Proofs.YtlbnlmhcpephbaaGreatDoor

namespace Go.Proofs.YtlbnlmhcpephbaaGreatDoor
def gapZ (a b : Int) : Nat := (a - b).natAbs
end Go.Proofs.YtlbnlmhcpephbaaGreatDoor
namespace Go.Proofs.YtlbnlmhcpephbaaGreatDoor
open Go.RowKit
section
variable {u v : Int} {part : Nat → Int} {rep stand : Int → Int}
end
end Go.Proofs.YtlbnlmhcpephbaaGreatDoor
namespace Go.Proofs.YtlbnlmhcpephbaaGreatDoor
open Go.RowKit
end Go.Proofs.YtlbnlmhcpephbaaGreatDoor

namespace Go.Proofs.YtlbnlmhcpephbaaGreatDoor.Hh
def tenD (d : Int) : Nat := if d = 1 then 10 else if d = 2 then 100 else if d = 3 then 1000 else 10000
end Go.Proofs.YtlbnlmhcpephbaaGreatDoor.Hh

namespace Go.Proofs.YtlbnlmhcpephbaaGreatDoor
open Go.RowKit
theorem upV_all {l : List (Int × Int)} (h : okP l) : upV l 9223372036854775807 = sumP l := by
 unfold upV
 rw [List.filter_eq_self.2 fun v hv => decide_eq_true (h v hv).1.2]
def keptV (part : Nat → Int) (s : Bool) (most : Int) (l : List (Int × Int)) (x : Int) : Prop := gap s (endP s (rowV part (decide (x < 0)) l)) (part x.natAbs) < most
end Go.Proofs.YtlbnlmhcpephbaaGreatDoor

namespace Go.Proofs.YtlbnlmhcpephbaaGreatDoor
open Go.RowKit
def gapL (l : List (Int × Int)) (x t : Int) : Int := if t < upV l (x - 1) + 1 then upV l (x - 1) + 1 - t else if upV l x < t then t - upV l x else 0
set_option maxRecDepth 100000 in
set_option maxHeartbeats 2000000 in
theorem tgap_any (A : Option Addr) (len cap : Nat) (l : List (Int × Int)) (x t : Int) (w : World) (hl : l.length = len) (hm : len ≤ 1048576) (hR : RdP w A l) (h : ∀ x ∈ l, 0 < x.2) (hs : sumP l ≤ 1000000) (ht : 0 ≤ t ∧ t ≤ 1000000) :
  Calls Tryz.prog 19 #[.slice A len cap, .int .i64 x, .int .u64 t] w fun e w' => e = .returned (.tuple #[.int .u64 (gapL l x t), .bool (decide (upV l (x - 1) + 1 ≤ upV l x))]) ∧ Below w.heap.size w w' := by
 have HUP := Lib.hid (up_any A len cap l x w hl hm hR h (by omega))
 have HR := Lib.hid hR
 have H := Lib.hid h
 have HS := Lib.hid hs
 have HL := Lib.hid hl
 have HU2 : Hid (0 ≤ upV l x ∧ upV l x ≤ 1000000) := by
  have := vsum_filter h (fun v => decide (v.1 ≤ x))
  show _ ∧ _
  unfold upV
  omega
 have HG : Hid (∀ p q, upV l x = q → upV l (x - 1) = p → gapL l x t = if t < p + 1 then p + 1 - t else if q < t then t - q else 0) := fun p q e1 e2 => by unfold gapL; rw [e1, e2]
 obtain ⟨q, hq⟩ : ∃ q, upV l x = q := ⟨_, rfl⟩
 have HQ := Lib.hid hq
 rw [hq] at HUP HU2 ⊢
 obtain ⟨g, hg⟩ : ∃ g, gapL l x t = g := ⟨_, rfl⟩
 have HGE := Lib.hid hg
 rw [hg]
 obtain ⟨d, hd⟩ : ∃ d, decide (upV l (x - 1) + 1 ≤ q) = d := ⟨_, rfl⟩
 have HD := Lib.hid hd
 rw [hd]
 clear hR h hs hl hq hg hd
 go_enter Tryz.func19, Tryz.ntmps19
 go_wp2_with fail
 refine HUP.out.mono ?_
 rintro e w1 ⟨rfl, hb1⟩
 clear HUP
 go_wp2
 go_loopw [9, 11, 17] (fun n _ i wr => ∃ k : Nat, ∃ p : Int, k ≤ len ∧ i = .int .i64 k ∧ n = .int .u64 (p + 1) ∧ 0 ≤ p ∧ Hid (p = upV (l.take k) (x - 1)) ∧ Below w.heap.size w wr) (fun _ _ i _ => len - (intOf i).toNat)
 case atStart => exact ⟨0, 0, by omega, rfl, rfl, by omega, rfl, hb1⟩
 case round =>
  obtain ⟨k, p, hk, rfl, rfl, hp, HP, hB⟩ := hrel
  clear hb1
  have zB := hB.size
  by_cases hlt : k < len
  ·obtain ⟨g', o, rfl, hg, c1, c2⟩ := (HR.out.below hB).at k (by have := HL.out; omega)
   have H1 := Lib.hid (sumP_filter_take l (fun v => decide (v.1 ≤ x - 1)) k (by have := HL.out; omega))
   have H2 := Lib.hid (vsum_filter (l := l.take (k + 1)) (fun x hx => H.out x (List.mem_of_mem_take hx)) (fun v => decide (v.1 ≤ x - 1))).2
   have H3 := Lib.hid (vsum_take H.out (k + 1)).2
   have H4 := Lib.hid (H.out _ (List.getElem_mem (show k < l.length by have := HL.out; omega)))
   obtain ⟨⟨y1, y2⟩, hy⟩ : ∃ y, l[k]'(by have := HL.out; omega) = y := ⟨_, rfl⟩
   rw [hy] at c1 c2 H1 H4
   clear hy HR
   dsimp only at c1 c2 H1 H4
   by_cases ha : y1 < x
   ·rw [if_pos (decide_eq_true (show y1 ≤ x - 1 by omega))] at H1
    have wa : IntKind.u64.wrap (p + 1 + y2) = p + y2 + 1 := by have h1 := H1.out; have h2 := H2.out; have h3 := HP.out; have h4 := H3.out; have h5 := HS.out; have h6 := H4.out; unfold upV at h3; simp only [IntKind.wrap_u64]; omega
    go_wp2
    go_roundw
    case rel => exact ⟨k + 1, p + y2, by omega, by simp, rfl, by have := H4.out; omega, by have h1 := H1.out; have h2 := HP.out; show _ = _; unfold upV at h2 ⊢; omega, (by repeat (first | with_reducible assumption | with_reducible exact Below.refl _ _ | with_reducible refine Below.drew ?_ | with_reducible refine Below.drewN ?_ _ | with_reducible refine Below.setCell ?_ (by first | omega | (simp; done) | (simp; omega)) _ | with_reducible refine Below.alloc ?_ (by first | omega | (simp; done) | (simp; omega) | (simp [World.setCell]; omega)) _))⟩
    case measure => simp [intOf]; omega
   ·rw [if_neg (by simp; omega)] at H1
    go_wp2
    go_roundw
    case rel => exact ⟨k + 1, p, by omega, by simp, rfl, hp, by have h1 := H1.out; have h2 := HP.out; show _ = _; unfold upV at h2 ⊢; omega, (by repeat (first | with_reducible assumption | with_reducible exact Below.refl _ _ | with_reducible refine Below.drew ?_ | with_reducible refine Below.drewN ?_ _ | with_reducible refine Below.setCell ?_ (by first | omega | (simp; done) | (simp; omega)) _ | with_reducible refine Below.alloc ?_ (by first | omega | (simp; done) | (simp; omega) | (simp [World.setCell]; omega)) _))⟩
    case measure => simp [intOf]; omega
  ·obtain rfl : k = len := by omega
   have h1 := HP.out
   rw [List.take_of_length_le (by have := HL.out; omega)] at h1
   have HV : Hid (g = (if t < p + 1 then p + 1 - t else if q < t then t - q else 0) ∧ d = decide (p + 1 ≤ q)) := ⟨by rw [← HGE.out]; exact HG.out p q HQ.out h1.symm, by rw [← HD.out, ← h1]⟩
   have HPB : Hid (p ≤ 1000000) := by
    have h2 := vsum_filter H.out (fun v => decide (v.1 ≤ x - 1))
    have h3 := HS.out
    show _ ≤ _
    unfold upV at h1
    omega
   have hu2 := HU2.out
   have hpb := HPB.out
   clear HR HP h1 hlt HG HGE HD HQ
   by_cases c1 : t < p + 1
   ·have w1 : IntKind.u64.wrap (p + 1 - t) = p + 1 - t := by simp only [IntKind.wrap_u64]; omega
    have HGV : Hid (g = p + 1 - t ∧ d = decide (p + 1 ≤ q)) := ⟨by rw [HV.out.1, if_pos c1], HV.out.2⟩
    clear HV
    go_wp2
    go_ret2
    exact ⟨by rw [HGV.out.1, HGV.out.2]; rfl, hB⟩
   ·by_cases c2 : q < t
    ·have w1 : IntKind.u64.wrap (t - q) = t - q := by simp only [IntKind.wrap_u64]; omega
     have HGV : Hid (g = t - q ∧ d = decide (p + 1 ≤ q)) := ⟨by rw [HV.out.1, if_neg c1, if_pos c2], HV.out.2⟩
     clear HV
     go_wp2
     go_ret2
     exact ⟨by rw [HGV.out.1, HGV.out.2]; rfl, hB⟩
    ·have HGV : Hid (g = 0 ∧ d = decide (p + 1 ≤ q)) := ⟨by rw [HV.out.1, if_neg c1, if_neg c2], HV.out.2⟩
     clear HV
     go_wp2
     go_ret2
     exact ⟨by rw [HGV.out.1, HGV.out.2]; rfl, hB⟩
end Go.Proofs.YtlbnlmhcpephbaaGreatDoor
