/- Texts of this claim, joined, indents halved: RunsQ, RunsG. -/
import Derived.Test.YtlbnlmhcpephbaaGreatDoorProg
import Derived.Test.YtlbnlmhcpephbaaGreatDoorKe8
namespace Go.Proofs.YtlbnlmhcpephbaaGreatDoor
open Go.RowKit
def headB (o : Option Int) (x : Int × Int) : List UInt8 := (match o with
 | none => natB (zigN x.1)
 | some p => natB (x.1 - p - 1).toNat) ++ natB x.2.toNat
def lastO (o : Option Int) (l : List (Int × Int)) : Option Int := match l.getLast? with
 | none => o
 | some y => some y.1
theorem pairsB_snoc (x : Int × Int) : ∀ (l : List (Int × Int)) (o : Option Int), pairsB o (l ++ [x]) = pairsB o l ++ headB (lastO o l) x
  | [], none => by simp [pairsB, headB, lastO]
  | [], some p => by simp [pairsB, headB, lastO]
  | y :: l, o => by
    have ih := pairsB_snoc x l (some y.1)
    have e : lastO (some y.1) l = lastO o (y :: l) := by
      cases l with
      | nil => rfl
      | cons z l => rfl
    rw [e] at ih
    cases o with
    | none => show natB _ ++ natB _ ++ pairsB (some y.1) (l ++ [x]) = _; rw [ih]; simp [pairsB]
    | some p => show natB _ ++ natB _ ++ pairsB (some y.1) (l ++ [x]) = _; rw [ih]; simp [pairsB]
theorem pairsB_zero {ps : List (Int × Int)} {x : Int × Int} (h : ps[0]? = some x) : pairsB none (ps.take 1) = pairsB none (ps.take 0) ++ (natB (zigN x.1) ++ natB x.2.toNat) := by
 obtain ⟨hk, e⟩ := List.getElem?_eq_some_iff.1 h
 rw [List.take_succ_eq_append_getElem hk, e, pairsB_snoc]
 rfl
theorem pairsB_succ {ps : List (Int × Int)} {k : Nat} {x y : Int × Int} (h : ps[k + 1]? = some x) (hy : ps[k]? = some y) : pairsB none (ps.take (k + 2)) = pairsB none (ps.take (k + 1)) ++ (natB (x.1 - y.1 - 1).toNat ++ natB x.2.toNat) := by
 obtain ⟨hk, e⟩ := List.getElem?_eq_some_iff.1 h
 obtain ⟨hk', e'⟩ := List.getElem?_eq_some_iff.1 hy
 rw [List.take_succ_eq_append_getElem hk, e, pairsB_snoc]
 have hl : lastO none (ps.take (k + 1)) = some y.1 := by
  unfold lastO
  rw [List.take_succ_eq_append_getElem hk', List.getLast?_append, e']
  rfl
 rw [hl]
 rfl
structure PutOk (ps : List (Int × Int)) : Prop where
 gd : Gd ps
 nn : ∀ x ∈ ps, -9223372036854775808 ≤ x.1 ∧ x.1 ≤ 9223372036854775807
 up : ∀ x ∈ ps, x.2 ≤ 9223372036854775807
theorem Gd.step {ps : List (Int × Int)} (h : Gd ps) {k : Nat} {x y : Int × Int} (hx : ps[k + 1]? = some x) (hy : ps[k]? = some y) : y.1 < x.1 := by
 obtain ⟨hk, rfl⟩ := List.getElem?_eq_some_iff.1 hx
 obtain ⟨hk', rfl⟩ := List.getElem?_eq_some_iff.1 hy
 exact List.pairwise_iff_getElem.1 h.srt k (k + 1) hk' hk (by omega)
theorem QuI.notin {w0 W : World} {b g len cap : Nat} {A0 A : Option Addr} {l : List UInt8} (h : QuI w0 W b A0 A len cap l) (hg : g < w0.heap.size) (hn : g ∉ b :: blk A0) : g ∉ b :: blk A := fun hm => by
 rcases List.mem_cons.1 hm with h1 | h1
 ·exact hn (by simp [h1])
 ·rcases h.bl g h1 with h2 | h2
  ·exact hn (by simp [h2])
  ·omega
theorem rdI_new (W : World) (x : Int) (g : Nat) (hg : g = W.heap.size) : RdI (W.alloc (.cells #[.int .i64 x] 2)) (some ⟨g, 0, none⟩) [x] := by
 subst hg
 intro j u hj
 have a := At.new W #[.int .i64 x] 2
 refine ⟨W.heap.size, 0, rfl, a.lt, ?_⟩
 have hl := (List.getElem?_eq_some_iff.1 hj).1
 simp at hl
 subst hl
 simp at hj; subst hj; exact a.cell rfl
def PutW (vb g o : Nat) (x y p : Int) (W : World) : Prop := At W vb #[.int .i64 x, .int .u64 y] 247 ∧ W.cell? ⟨g, o, none⟩ = some (.int .i64 p)
theorem PutW.far {vb g o : Nat} {x y p : Int} {W : World} (h : PutW vb g o x y p W) : At W vb #[.int .i64 x, .int .u64 y] 247 ∧ W.cell? ⟨g, o, none⟩ = some (.int .i64 p) := h
theorem pairsB_len : ∀ {l : List (Int × Int)} {o : Option Int}, (∀ x ∈ l, -9223372036854775808 ≤ x.1 ∧ x.1 ≤ 9223372036854775807) → (∀ x ∈ l, x.2 ≤ 9223372036854775807) → (∀ p, o = some p → -9223372036854775808 ≤ p) → (pairsB o l).length ≤ 20 * l.length
  | [], o, _, _, _ => by cases o <;> simp [pairsB]
  | x :: l, o, h, h2, ho => by
    have hx := h x (by simp)
    have hx2 := h2 x (by simp)
    have ih := pairsB_len (l := l) (o := some x.1) (fun y hy => h y (by simp [hy])) (fun y hy => h2 y (by simp [hy])) (fun p hp => by cases hp; exact hx.1)
    have a1 := natB_len (u := x.2.toNat) (by omega)
    cases o with
    | none =>
      have a2 := natB_len (zig_lt (x := x.1) (by omega) (by omega))
      show (natB _ ++ natB _ ++ pairsB (some x.1) l).length ≤ _
      rw [List.length_append, List.length_append, List.length_cons]; omega
    | some p =>
      have hp := ho p rfl
      have a2 := natB_len (u := (x.1 - p - 1).toNat) (by omega)
      show (natB _ ++ natB _ ++ pairsB (some x.1) l).length ≤ _
      rw [List.length_append, List.length_append, List.length_cons]; omega
theorem PutOk.len {ps : List (Int × Int)} (h : PutOk ps) (k : Nat) : (pairsB none (ps.take k)).length ≤ 20 * ps.length := by
 have h1 := pairsB_len (l := ps.take k) (o := none) (fun x hx => h.nn x (List.mem_of_mem_take hx)) (fun x hx => h.up x (List.mem_of_mem_take hx)) (fun p hp => by cases hp)
 rw [List.length_take] at h1
 omega
set_option maxRecDepth 100000 in
set_option maxHeartbeats 4000000 in
theorem rput_any (b : Nat) (A : Option Addr) (len cap : Nat) (l : List UInt8) (L : Option Addr) (n cL : Nat) (ps : List (Int × Int)) (w : World) (h : Qu w b A len cap l) (hn : ps.length = n) (hm : n ≤ 100000) (hlen : len ≤ 1000000) (hR : RdP w L ps) (hp : PutOk ps) (hL : 0 < n → ∀ g, L = some g → g.block ∉ b :: blk A) :
  Calls Tryz.prog 204 #[.pointer (some ⟨b, 0, none⟩), .slice L n cL] w fun e w' => e = .returned (.tuple #[]) ∧ ∃ A' len' cap', QuI w w' b A A' len' cap' (l ++ rowB ps) := by
 have HR := Lib.hid hR
 have HP := Lib.hid hp
 have HN := Lib.hid hn
 have HL := Lib.hid hL
 have HLL := Lib.hid h.len
 have HRN := Lib.hid (rdU_new w (n : Int))
 have HFR := Lib.hid (QuB.fresh h w.heap.size (Nat.le_refl _))
 have hbe : Below w.heap.size w (w.alloc (.cells #[.int .u64 (n : Int)] 23)) := (Below.refl _ _).alloc (Nat.le_refl _) _
 have H0 := Lib.hid ((QuI.start h).below hbe)
 clear hR hp hn h hL hbe
 go_enter Tryz.func204, Tryz.ntmps204
 go_wp2_with fail
 refine (qnat_any b A len cap l (some ⟨w.heap.size, 0, none⟩) 1 1 [n] _ H0.out.qu rfl (by omega) (by omega) HRN.out (fun u hu => by rw [List.mem_singleton] at hu; omega) HFR.out).mono ?_
 rintro e w1 ⟨rfl, A1, len1, cap1, hQ⟩
 have HS0 : Hid (QuI w w1 b A A1 len1 cap1 (l ++ natB n ++ pairsB none (ps.take 0))) := by
  have h3 := H0.out.trans hQ
  show QuI _ _ _ _ _ _ _ _
  simpa [natsB, pairsB] using h3
 clear hQ H0 HRN HFR
 go_wp2
 go_loopw [4, 5, 14] (fun _ _ i wr => ∃ k : Nat, k ≤ n ∧ i = .int .i64 k ∧ ∃ A2 len2 cap2, Hid (QuI w wr b A A2 len2 cap2 (l ++ natB n ++ pairsB none (ps.take k)))) (fun _ _ i _ => n - (intOf i).toNat)
 case atStart => exact ⟨0, by omega, rfl, A1, len1, cap1, HS0⟩
 case round =>
  obtain ⟨k, hk, rfl, A2, len2, cap2, H⟩ := hrel
  clear HS0
  by_cases hlt : k < n
  ·obtain ⟨⟨x, y⟩, hxy⟩ : ∃ x, ps[k]? = some x := ⟨_, List.getElem?_eq_getElem (by have := HN.out; omega)⟩
   have HX := Lib.hid (And.intro (HP.out.nn _ (List.mem_of_getElem? hxy)) (And.intro (HP.out.up _ (List.mem_of_getElem? hxy)) (HP.out.gd.pos _ (List.mem_of_getElem? hxy))))
   obtain ⟨yn, rfl⟩ : ∃ m : Nat, y = (m : Int) := ⟨y.toNat, by have := HX.out.2.2; dsimp only at this; omega⟩
   have HYB : Hid (yn < 18446744073709551616) := by have := HX.out.2.1; dsimp only at this; show _ < _; omega
   have HXY := Lib.hid hxy
   have HLK : Hid (len2 ≤ 4000000) := by
    have h1 := HP.out.len k
    have h2 := H.out.qu.len
    have h3 := natB_len (u := n) (by omega)
    rw [List.length_append, List.length_append] at h2
    have := HLL.out
    have := HN.out
    show _ ≤ _
    omega
   have hRw : RdP wr L ps := Frame.rd H.out.fr HR.out (HL.out (by omega))
   obtain ⟨g, o', rfl, hg, d1, d2⟩ := hRw.at k (by have := HN.out; omega)
   have HRW := Lib.hid hRw
   obtain ⟨hk', e⟩ := List.getElem?_eq_some_iff.1 hxy
   rw [e] at d1 d2
   dsimp only at d1 d2
   have hba : Below wr.heap.size wr (wr.alloc (.cells #[.int .i64 x, .int .u64 (yn : Int)] 247)) := (Below.refl _ _).alloc (Nat.le_refl _) _
   have aV := At.new wr #[.int .i64 x, .int .u64 (yn : Int)] 247
   have fV := aV.two
   have lV := aV.lt
   have HAV := Lib.hid aV
   have H3 := Lib.hid (H.out.below hba)
   have HGV : Hid (g < wr.heap.size) := hg
   have HGN : Hid (g ∉ b :: blk A2) := by
    obtain ⟨g', o'', e', hg', _⟩ := HR.out.at k (by have := HN.out; omega)
    have e2 : g = g' := by simp at e'; exact e'.1
    subst e2
    exact H.out.notin hg' (HL.out (by omega) _ rfl)
   have HVN : Hid (wr.heap.size ∉ b :: blk A2) := fun hm => QuB.fresh H.out.qu wr.heap.size (Nat.le_refl _) _ rfl hm
   clear hRw hxy hk' e hba hg H
   by_cases hk0 : k = 0
   ·have hkz : ((k : Int) == 0) = true := by subst hk0; rfl
    have HNX : Hid (pairsB none (ps.take (k + 1)) = pairsB none (ps.take k) ++ (intsB [x] ++ natB yn)) := by
     show _ = _
     subst hk0
     rw [pairsB_zero HXY.out]
     simp [intsB]
    have HHD : Hid ((intsB [x]).length ≤ 10) := by
     have h1 := intsB_len (l := [x]) fun u hu => by rw [List.mem_singleton] at hu; subst hu; have := HX.out.1; omega
     show _ ≤ _
     simpa using h1
    have hbe : Below (wr.alloc (.cells #[.int .i64 x, .int .u64 (yn : Int)] 247)).heap.size (wr.alloc (.cells #[.int .i64 x, .int .u64 (yn : Int)] 247)) ((wr.alloc (.cells #[.int .i64 x, .int .u64 (yn : Int)] 247)).alloc (.cells #[.int .i64 x] 2)) := (Below.refl _ _).alloc (Nat.le_refl _) _
    have H4 := Lib.hid (H3.out.below hbe)
    have HAV4 := Lib.hid (HAV.out.below hbe)
    have HRI := Lib.hid (rdI_new (wr.alloc (.cells #[.int .i64 x, .int .u64 (yn : Int)] 247)) x (wr.heap.size + 1) (by simp))
    have HFR' := Lib.hid (QuB.fresh H3.out.qu (wr.heap.size + 1) (by simp))
    clear hbe hk0
    go_wp2_with fail
    refine (qint_any b A2 len2 cap2 _ (some ⟨wr.heap.size + 1, 0, none⟩) 1 1 [x] _ H4.out.qu rfl (by omega) (by have := HLK.out; omega) HRI.out (fun u hu => by rw [List.mem_singleton] at hu; subst hu; have := HX.out.1; omega) HFR'.out).mono ?_
    rintro e w5 ⟨rfl, A3, len3, cap3, hQ⟩
    clear HRI HFR' fV lV d1 d2
    have H5 := Lib.hid (H4.out.trans hQ)
    have HA5 := Lib.hid (hQ.fr.at HAV4.out HVN.out)
    have f5 := HA5.out.two
    have l5 := HA5.out.lt
    have HL5 : Hid (len3 ≤ 5000000) := by
     have h1 := H5.out.qu.len
     have h2 := H4.out.qu.len
     have h3 := HHD.out
     rw [List.length_append, h2] at h1
     have := HLK.out
     show _ ≤ _
     omega
    have hbe : Below w5.heap.size w5 (w5.alloc (.cells #[.int .u64 (yn : Int)] 23)) := (Below.refl _ _).alloc (Nat.le_refl _) _
    have H6 := Lib.hid (H5.out.below hbe)
    have HRU := Lib.hid (rdU_new w5 (yn : Int))
    have HFR6 := Lib.hid (QuB.fresh H5.out.qu w5.heap.size (Nat.le_refl _))
    clear hQ H4 HAV4 H5 hbe
    go_wp2_with fail
    refine (qnat_any b A3 len3 cap3 _ (some ⟨w5.heap.size, 0, none⟩) 1 1 [yn] _ H6.out.qu rfl (by omega) (by have := HL5.out; omega) HRU.out (fun u hu => by rw [List.mem_singleton] at hu; subst hu; exact HYB.out) HFR6.out).mono ?_
    rintro e w7 ⟨rfl, A4, len4, cap4, hQ⟩
    have H7 : Hid (QuI w w7 b A A4 len4 cap4 (l ++ natB n ++ pairsB none (ps.take (k + 1)))) := by
     have h3 := H6.out.trans hQ
     show QuI _ _ _ _ _ _ _ _
     rw [HNX.out]
     simpa [natsB] using h3
    clear hQ H6 HRU HFR6 H3
    go_wp2
    exact ⟨⟨k + 1, by omega, by simp, A4, len4, cap4, H7⟩, by simp [intOf]; omega⟩
   ·have hkz : ((k : Int) == 0) = false := beq_eq_false_iff_ne.2 (by omega)
    obtain ⟨j, rfl⟩ : ∃ j, k = j + 1 := ⟨k - 1, by omega⟩
    obtain ⟨⟨p, py⟩, hpy⟩ : ∃ x, ps[j]? = some x := ⟨_, List.getElem?_eq_getElem (by have := HN.out; omega)⟩
    have HPB := Lib.hid (HP.out.nn _ (List.mem_of_getElem? hpy))
    have HLT := Lib.hid (HP.out.gd.step HXY.out hpy)
    obtain ⟨d, hd⟩ : ∃ d : Nat, x - p - 1 = (d : Int) := ⟨(x - p - 1).toNat, by have := HLT.out; dsimp only at this; omega⟩
    have HDD := Lib.hid hd
    have hpb : -9223372036854775808 ≤ p ∧ p ≤ 9223372036854775807 := by have := HPB.out; dsimp only at this; omega
    have hxb : -9223372036854775808 ≤ x ∧ x ≤ 9223372036854775807 := HX.out.1
    obtain ⟨xw, c1⟩ : ∃ z, IntKind.u64.wrap x = z := ⟨_, rfl⟩
    obtain ⟨pw, c2⟩ : ∃ z, IntKind.u64.wrap p = z := ⟨_, rfl⟩
    obtain ⟨sw, c3⟩ : ∃ z, IntKind.u64.wrap (xw - pw) = z := ⟨_, rfl⟩
    have c4 : IntKind.u64.wrap (sw - 1) = (d : Int) := by subst c3 c2 c1; simp only [IntKind.wrap_u64]; omega
    clear hpb hxb
    obtain ⟨_, _, e2, _, q1, _⟩ := RdP.at HRW.out j (by have := HN.out; omega)
    obtain ⟨rfl, rfl⟩ : g = _ ∧ o' = _ := by simpa using e2
    obtain ⟨hj', ej⟩ := List.getElem?_eq_some_iff.1 hpy
    rw [ej] at q1
    dsimp only at q1
    have HNX : Hid (pairsB none (ps.take (j + 1 + 1)) = pairsB none (ps.take (j + 1)) ++ (natsB [d] ++ natB yn)) := by
     show _ = _
     rw [pairsB_succ HXY.out hpy]
     dsimp only
     rw [show (x - p - 1).toNat = d by have := HDD.out; omega]
     simp [natsB]
    have HDB : Hid (d < 18446744073709551616) := by have := HX.out.1; have := HPB.out; dsimp only at *; show _ < _; omega
    have HHD : Hid ((natsB [d]).length ≤ 10) := by
     have h1 := natsB_len (l := [d]) fun u hu => by rw [List.mem_singleton] at hu; subst hu; exact HDB.out
     show _ ≤ _
     simpa using h1
    have HQ1 : Hid (PutW wr.heap.size g (o' + j * 2) x (yn : Int) p (wr.alloc (.cells #[.int .i64 x, .int .u64 (yn : Int)] 247))) := ⟨HAV.out, cellB ((Below.refl _ _).alloc (Nat.le_refl _) _) HGV.out q1⟩
    clear hd q1 ej hj' hpy e2 HRW
    go_wp2_with fail
    clear d1 d2 fV lV
    obtain ⟨vb, hvb⟩ : ∃ r, wr.heap.size = r := ⟨_, rfl⟩
    obtain ⟨W3, hW3⟩ : ∃ W, wr.alloc (.cells #[.int .i64 x, .int .u64 (yn : Int)] 247) = W := ⟨_, rfl⟩
    have HVV : Hid (vb < W3.heap.size) := by show _ < _; rw [← hW3, ← hvb]; exact HAV.out.lt
    rw [hW3] at HAV H3 HQ1
    rw [hvb] at HAV HGV HVN HQ1
    simp only [hW3, hvb]
    have HVB : Hid (vb = wr.heap.size) := hvb.symm
    clear hvb hW3
    have hbd : Below W3.heap.size W3 W3.drew := (Below.refl _ _).drew
    obtain ⟨W4, hW4⟩ : ∃ W, W3.drew = W := ⟨_, rfl⟩
    rw [hW4] at hbd
    have hK4 : PutW vb g (o' + j * 2) x (yn : Int) p W4 := ⟨HQ1.out.1.below hbd, cellB hbd (Nat.lt_trans HGV.out HVV.out) HQ1.out.2⟩
    have H34 := Lib.hid (H3.out.below hbd)
    haveI hne : Nonempty (Held (PutW vb g (o' + j * 2) x (yn : Int) p)) := ⟨⟨W4, hK4⟩⟩
    have hfar1 := fun v : Held (PutW vb g (o' + j * 2) x (yn : Int) p) => v.held.far.1.two
    have hfar2 := fun v : Held (PutW vb g (o' + j * 2) x (yn : Int) p) => v.held.far.2
    refine wp_region_noPanic ?_
    refine wp_region_held_drew (S := HeldS (PutW vb g (o' + j * 2) x (yn : Int) p)) (by kernel_rfl) (by rw [hW4]; exact HeldS.mk' hK4) (fun hHeld => ?_)
    rw [hW4] at hHeld ⊢
    have HK4 := Lib.hid hK4
    clear hW4 hK4 hbd
    refine runH [13] 2 hHeld ?_
    simp only [runL, runN, runOps_true, runOps_false, runOps_nil]
    repeat go_big_quiet_step (fail)
    refine wpQuiet_nil ?_
    clear hfar1 hfar2
    have hba : Below W4.heap.size W4 (W4.alloc (.cells #[.int .u64 (d : Int)] 23)) := (Below.refl _ _).alloc (Nat.le_refl _) _
    have hK5 : PutW vb g (o' + j * 2) x (yn : Int) p (W4.alloc (.cells #[.int .u64 (d : Int)] 23)) := ⟨HK4.out.1.below hba, cellB hba (Nat.lt_trans HGV.out HK4.out.1.lt) HK4.out.2⟩
    have HK5 := Lib.hid hK5
    have H4 := Lib.hid (H34.out.below hba)
    have HAV4 := Lib.hid hK5.1
    have HRU := Lib.hid (rdU_new W4 (d : Int))
    have HFR := Lib.hid (QuB.fresh H34.out.qu W4.heap.size (Nat.le_refl _))
    clear hba
    refine readyH 13 fun K hK => ?_
    go_simp
    go_wp2
    refine hK.out _ _ (HeldS.mk' hK5) (fun hHeld => ?_)
    clear hK K hK5
    refine readyH 14 fun K hK => ?_
    go_simp
    go_wp2_with (go_at_call 96; refine (qnat_any b A2 len2 cap2 _ (some ⟨W4.heap.size, 0, none⟩) 1 1 [d] _ H4.out.qu rfl (by omega) (by have := HLK.out; omega) HRU.out (fun u hu => by rw [List.mem_singleton] at hu; subst hu; exact HDB.out) HFR.out).mono ?_; rintro e w5 ⟨rfl, A3, len3, cap3, hQ⟩)
    refine hK.out _ _ ?_ (fun hHeld => ?_)
    clear hK K
    ·exact HeldS.mk' ⟨hQ.fr.at HK5.out.1 HVN.out, (World.cell?_of_block (hQ.fr.block g (Nat.lt_trans HGV.out HK5.out.1.lt) HGN.out)).trans HK5.out.2⟩
    refine wpAnyH_done (by kernel_rfl) ?_ _
    refine NoPanic.normal ?_
    clear hne hHeld HRU HFR HK5 HK4 H34
    have H5 := Lib.hid (H4.out.trans hQ)
    have HA5 := Lib.hid (hQ.fr.at HAV4.out HVN.out)
    have f5 := HA5.out.two
    have l5 := HA5.out.lt
    have HL5 : Hid (len3 ≤ 5000000) := by
     have h1 := H5.out.qu.len
     have h2 := H4.out.qu.len
     have h3 := HHD.out
     rw [List.length_append, h2] at h1
     have := HLK.out
     show _ ≤ _
     omega
    have hbe : Below w5.heap.size w5 (w5.alloc (.cells #[.int .u64 (yn : Int)] 23)) := (Below.refl _ _).alloc (Nat.le_refl _) _
    have H6 := Lib.hid (H5.out.below hbe)
    have HRU := Lib.hid (rdU_new w5 (yn : Int))
    have HFR6 := Lib.hid (QuB.fresh H5.out.qu w5.heap.size (Nat.le_refl _))
    clear hQ H4 HAV4 H5 hbe
    go_wp2_with fail
    refine (qnat_any b A3 len3 cap3 _ (some ⟨w5.heap.size, 0, none⟩) 1 1 [yn] _ H6.out.qu rfl (by omega) (by have := HL5.out; omega) HRU.out (fun u hu => by rw [List.mem_singleton] at hu; subst hu; exact HYB.out) HFR6.out).mono ?_
    rintro e w7 ⟨rfl, A4, len4, cap4, hQ⟩
    have H7 : Hid (QuI w w7 b A A4 len4 cap4 (l ++ natB n ++ pairsB none (ps.take (j + 1 + 1)))) := by
     have h3 := H6.out.trans hQ
     show QuI _ _ _ _ _ _ _ _
     rw [HNX.out]
     simpa [natsB] using h3
    clear hQ H6 HRU HFR6 H3
    go_wp2
    exact ⟨⟨j + 1 + 1, by omega, by simp, A4, len4, cap4, H7⟩, by simp [intOf]; omega⟩
  ·obtain rfl : k = n := by omega
   have HT : Hid (l ++ natB k ++ pairsB none (ps.take k) = l ++ rowB ps) := by
    show _ = _
    rw [List.take_of_length_le (by have := HN.out; omega)]
    simp [rowB, HN.out]
   rw [HT.out] at H
   go_wp2
   exact bodyPost_end (results_none rfl _ _ _) rfl ⟨rfl, A2, len2, cap2, H.out⟩
end Go.Proofs.YtlbnlmhcpephbaaGreatDoor

namespace Go.Proofs.YtlbnlmhcpephbaaGreatDoor
open Go.RowKit
theorem Frame.low {S : List Nat} {w W W' : World} (h : Frame S w W) (hb : Below w.heap.size W W') : Frame S w W' :=
 ⟨hb.os.trans h.os, hb.tape.trans h.tape, hb.output.trans h.output, Nat.le_trans h.size hb.size, fun k hk hn => (hb.block k hk).trans (h.block k hk hn)⟩
structure GetJ (w W : World) (b : Nat) (A : Option Addr) (cap : Nat) (ps : List (Int × Int)) (left : List UInt8) : Prop where
 own : Own2 w.heap.size W A cap ps
 eye : Eye W b left
 fr : Frame [b] w W
 lt : b < w.heap.size
section
variable {w W W' : World} {b vb cap cap' : Nat} {A A' : Option Addr} {ps ps' : List (Int × Int)} {l l' : List UInt8}
theorem GetJ.sz (h : GetJ w W b A cap ps l) : w.heap.size ≤ W.heap.size := h.fr.size
theorem GetJ.blk (h : GetJ w W b A cap ps l) : ∀ k ∈ blk A, w.heap.size ≤ k ∧ k < W.heap.size := by
 intro k hk
 cases A with
 | none => simp [Go.Proofs.YtlbnlmhcpephbaaGreatDoor.blk] at hk
 | some a => simp only [Go.Proofs.YtlbnlmhcpephbaaGreatDoor.blk, List.mem_singleton] at hk; subst hk; exact h.own.base_le a rfl
theorem GetJ.below (h : GetJ w W b A cap ps l) (hb : Below W.heap.size W W') : GetJ w W' b A cap ps l := ⟨h.own.below hb, h.eye.below hb, h.fr.trans (Frame.of_below hb), h.lt⟩
theorem GetJ.read (h : GetJ w W b A cap ps l) (hE : Eye W' b l') (hF : Frame [b] W W') : GetJ w W' b A cap ps l' :=
 ⟨h.own.frame hF fun k hk hm => by simp only [List.mem_singleton] at hm; have := (h.blk k hk).1; have := h.lt; omega, hE, h.fr.trans hF, h.lt⟩
theorem GetJ.at (h : GetJ w W b A cap ps l) (hF : Frame [vb] W W') (hv : w.heap.size ≤ vb) (hn : vb ∉ Go.Proofs.YtlbnlmhcpephbaaGreatDoor.blk A) : GetJ w W' b A cap ps l :=
 ⟨h.own.frame hF fun k hk hm => by simp only [List.mem_singleton] at hm; subst hm; exact hn hk, h.eye.frame hF (by have := h.lt; simp only [List.mem_singleton]; omega),
  ⟨hF.os.trans h.fr.os, hF.tape.trans h.fr.tape, hF.output.trans h.fr.output, Nat.le_trans h.fr.size hF.size, fun k hk hn => (hF.block k (Nat.lt_of_lt_of_le hk h.fr.size) (by simp only [List.mem_singleton]; omega)).trans (h.fr.block k hk hn)⟩, h.lt⟩
theorem GetJ.app (h : GetJ w W b A cap ps l) (ho : Own2 w.heap.size W' A' cap' ps') (hb : Below w.heap.size W W') : GetJ w W' b A' cap' ps' l := ⟨ho, At.of_below h.eye hb h.lt, h.fr.low hb, h.lt⟩
end
theorem lastO_succ {ps : List (Int × Int)} {k : Nat} {y : Int × Int} (hy : ps[k]? = some y) : lastO none (ps.take (k + 1)) = some y.1 := by
 obtain ⟨hk', e'⟩ := List.getElem?_eq_some_iff.1 hy
 unfold lastO
 rw [List.take_succ_eq_append_getElem hk', List.getLast?_append, e']
 rfl
theorem drop_at {ps : List (Int × Int)} {k : Nat} {x : Int × Int} (h : ps[k]? = some x) : ps.drop k = x :: ps.drop (k + 1) := by
 obtain ⟨hk, e⟩ := List.getElem?_eq_some_iff.1 h
 rw [List.drop_eq_getElem_cons hk, e]
set_option maxRecDepth 100000 in
set_option maxHeartbeats 4000000 in
theorem rget_any (b : Nat) (most : Int) (ps : List (Int × Int)) (rest : List UInt8) (w : World) (h : Eye w b (rowB ps ++ rest)) (hp : PutOk ps) (hm : (ps.length : Int) ≤ most) (hm' : most ≤ 4096) (hl : rest.length ≤ 1000000) :
  Calls Tryz.prog 83 #[.pointer (some ⟨b, 0, none⟩), .int .i64 most] w fun e w' => ∃ A cap, e = .returned (.slice A ps.length cap) ∧ RdP w' A ps ∧ Eye w' b rest ∧ Frame [b] w w' := by
 have HP := Lib.hid hp
 obtain ⟨n, hn⟩ : ∃ n, ps.length = n := ⟨_, rfl⟩
 have HN := Lib.hid hn
 rw [hn] at hm ⊢
 have h0 : Eye w b (natB n ++ (pairsB none ps ++ rest)) := by
  have := h
  unfold rowB at this
  rw [hn, List.append_assoc] at this
  exact this
 have HLT : Hid (b < w.heap.size) := At.lt h
 have HPL : Hid (∀ o k, (∀ p, o = some p → -9223372036854775808 ≤ p) → (pairsB o (ps.drop k)).length ≤ 100000) := fun o k ho => by
  have h1 := pairsB_len (l := ps.drop k) (o := o) (fun x hx => hp.nn x (List.mem_of_mem_drop hx)) (fun x hx => hp.up x (List.mem_of_mem_drop hx)) ho
  rw [List.length_drop] at h1
  omega
 have hl0 : (pairsB none ps ++ rest).length ≤ 100000000 := by
  have := HPL.out none 0 (fun p hp => by cases hp)
  rw [List.drop_zero] at this
  rw [List.length_append]; omega
 have HS := Lib.hid (esmall_any b n most (pairsB none ps ++ rest) w h0 hm (by omega) hl0)
 have hn4 : n ≤ 4096 := by omega
 clear hp hn h h0 hl0
 go_enter Tryz.func83, Tryz.ntmps83
 go_wp2_with fail
 refine HS.out.mono ?_
 rintro e w1 ⟨rfl, hE, hF⟩
 have H0 : Hid (GetJ w w1 b none 0 (ps.take 0) (pairsB (lastO none (ps.take 0)) (ps.drop 0) ++ rest)) := ⟨Own2.nil _ _, hE, hF, HLT.out⟩
 clear hE hF HS
 go_wp2
 go_loopw [5, 6, 7, 8, 12] (fun out _ _ _ i wr => ∃ k : Nat, k ≤ n ∧ i = .int .i64 k ∧ ∃ A cap, out = .slice A k cap ∧ Hid (GetJ w wr b A cap (ps.take k) (pairsB (lastO none (ps.take k)) (ps.drop k) ++ rest))) (fun _ _ _ _ i _ => n - (intOf i).toNat)
 case atStart => exact ⟨0, by omega, rfl, none, 0, rfl, H0⟩
 case round =>
  obtain ⟨k, hk, rfl, A, cap, rfl, H⟩ := hrel
  clear H0
  by_cases hlt : k < n
  ·obtain ⟨⟨x, y⟩, hxy⟩ : ∃ x, ps[k]? = some x := ⟨_, List.getElem?_eq_getElem (by have := HN.out; omega)⟩
   have HX := Lib.hid (And.intro (HP.out.nn _ (List.mem_of_getElem? hxy)) (And.intro (HP.out.up _ (List.mem_of_getElem? hxy)) (HP.out.gd.pos _ (List.mem_of_getElem? hxy))))
   obtain ⟨yn, rfl⟩ : ∃ m : Nat, y = (m : Int) := ⟨y.toNat, by have := HX.out.2.2; dsimp only at this; omega⟩
   have HYB : Hid (0 < yn ∧ yn ≤ 9223372036854775807) := by have h1 := HX.out.2; dsimp only at h1; show _ ∧ _; omega
   have hxb : -9223372036854775808 ≤ x ∧ x ≤ 9223372036854775807 := HX.out.1
   have HTL : Hid ((ps.take k).length = k) := by show _ = _; rw [List.length_take]; have := HN.out; omega
   have HTK : Hid (ps.take (k + 1) = ps.take k ++ [(x, (yn : Int))]) := by
    obtain ⟨hk', e⟩ := List.getElem?_eq_some_iff.1 hxy
    show _ = _
    rw [List.take_succ_eq_append_getElem hk', e]
   have HRL : Hid ((pairsB (lastO none (ps.take (k + 1))) (ps.drop (k + 1)) ++ rest).length ≤ 2000000) := by
    have h1 := HPL.out (lastO none (ps.take (k + 1))) (k + 1) (fun p hp => by rw [lastO_succ hxy] at hp; simp only [Option.some.injEq] at hp; omega)
    show _ ≤ _
    rw [List.length_append]; omega
   have hba : Below wr.heap.size wr (wr.alloc (.cells #[.int .i64 0, .int .u64 0] 247)) := (Below.refl _ _).alloc (Nat.le_refl _) _
   have aV := At.new wr #[.int .i64 0, .int .u64 0] 247
   have H1 := Lib.hid (H.out.below hba)
   have HV1 := Lib.hid aV
   by_cases hk0 : k = 0
   ·have hkz : ((k : Int) == 0) = true := by subst hk0; rfl
    have HL : Hid (pairsB (lastO none (ps.take k)) (ps.drop k) ++ rest = natB (zigN x) ++ (natB yn ++ (pairsB (lastO none (ps.take (k + 1))) (ps.drop (k + 1)) ++ rest))) := by
     show _ = _
     rw [lastO_succ hxy, drop_at hxy]
     subst hk0
     show pairsB none _ ++ _ = _
     simp [pairsB]
    have HE1 : Hid (Eye (wr.alloc (.cells #[.int .i64 0, .int .u64 0] 247)) b (natB (zigN x) ++ (natB yn ++ (pairsB (lastO none (ps.take (k + 1))) (ps.drop (k + 1)) ++ rest)))) := by show Eye _ _ _; rw [← HL.out]; exact H1.out.eye
    clear hba aV hk0 hxy
    go_wp2_with fail
    obtain ⟨vb, hvb⟩ : ∃ r, wr.heap.size = r := ⟨_, rfl⟩
    obtain ⟨W1, hW1⟩ : ∃ W, wr.alloc (.cells #[.int .i64 0, .int .u64 0] 247) = W := ⟨_, rfl⟩
    have HVB : Hid (w.heap.size ≤ vb ∧ vb ∉ blk A) := ⟨by rw [← hvb]; exact H.out.sz, fun hm => by have := (H.out.blk vb hm).2; omega⟩
    have HVN : Hid (vb ≠ b) := fun e => by have := H.out.lt; have := H.out.sz; omega
    rw [hW1] at H1 HV1 HE1
    rw [hvb] at HV1
    simp only [hW1, hvb]
    clear hW1 hvb H
    refine (eint_any b x _ W1 HE1.out (by omega) (by omega) (by have h1 := HRL.out; have h2 := natB_len (u := yn) (by have := HYB.out; omega); rw [List.length_append]; omega)).mono ?_
    rintro e w2 ⟨rfl, hE, hF⟩
    have H2 : Hid (GetJ w w2 b A cap (ps.take k) (natB yn ++ (pairsB (lastO none (ps.take (k + 1))) (ps.drop (k + 1)) ++ rest))) := H1.out.read hE hF
    have HV2 : Hid (At w2 vb #[.int .i64 0, .int .u64 0] 247) := hF.at HV1.out (by simp only [List.mem_singleton]; exact HVN.out)
    have f2 := HV2.out.two
    have l2 := HV2.out.lt
    clear H1 HV1 HE1 HL
    clear hE hF
    go_wp2_with fail
    have a3 := HV2.out.set_any 0 (.int .i64 x) rfl
    obtain ⟨W3, hW3⟩ : ∃ W, w2.setCell ⟨vb, 0, none⟩ (.int .i64 x) = W := ⟨_, rfl⟩
    have hS3 : Frame [vb] w2 W3 := by rw [← hW3]; exact Frame.set [vb] w2 vb 0 _ (by simp)
    rw [hW3] at a3 ⊢
    have H3 : Hid (GetJ w W3 b A cap (ps.take k) (natB yn ++ (pairsB (lastO none (ps.take (k + 1))) (ps.drop (k + 1)) ++ rest))) := H2.out.at hS3 HVB.out.1 HVB.out.2
    have HV3 : Hid (At W3 vb #[.int .i64 x, .int .u64 0] 247) := a3
    clear hW3 a3 hS3 H2 HV2
    refine (ecount_any b yn _ W3 H3.out.eye HYB.out.1 HYB.out.2 (by have := HRL.out; omega)).mono ?_
    rintro e w4 ⟨rfl, hE, hF⟩
    have H4 : Hid (GetJ w w4 b A cap (ps.take k) (pairsB (lastO none (ps.take (k + 1))) (ps.drop (k + 1)) ++ rest)) := H3.out.read hE hF
    have HV4 : Hid (At w4 vb #[.int .i64 x, .int .u64 0] 247) := hF.at HV3.out (by simp only [List.mem_singleton]; exact HVN.out)
    have f4 := HV4.out.two
    have l4 := HV4.out.lt
    clear hE hF H3 HV3
    go_wp2_with fail
    have a5 := HV4.out.set_any 1 (.int .u64 (yn : Int)) rfl
    obtain ⟨W5, hW5⟩ : ∃ W, w4.setCell ⟨vb, 1, none⟩ (.int .u64 (yn : Int)) = W := ⟨_, rfl⟩
    have hS5 : Frame [vb] w4 W5 := by rw [← hW5]; exact Frame.set [vb] w4 vb 1 _ (by simp)
    rw [hW5] at a5 ⊢
    have H5 : Hid (GetJ w W5 b A cap (ps.take k) (pairsB (lastO none (ps.take (k + 1))) (ps.drop (k + 1)) ++ rest)) := H4.out.at hS5 HVB.out.1 HVB.out.2
    have HV5 : Hid (At W5 vb #[.int .i64 x, .int .u64 (yn : Int)] 247) := a5
    clear hW5 a5 hS5 H4 HV4 f4 l4
    refine (ebad_any b _ W5 H5.out.eye).mono ?_
    rintro e w6 ⟨rfl, rfl⟩
    have f5 := HV5.out.two
    have l5 := HV5.out.lt
    have hba : Below W5.heap.size W5 (W5.alloc (.cells #[.int .i64 x, .int .u64 (yn : Int)] 247)) := (Below.refl _ _).alloc (Nat.le_refl _) _
    have H6 := Lib.hid (H5.out.below hba)
    have HN0 := Lib.hid (new_two0 (w := W5) (u0 := .int .i64 x) (u1 := .int .u64 (yn : Int)) (T := 247) rfl)
    have HN1 := Lib.hid (new_two1 (w := W5) (u0 := .int .i64 x) (u1 := .int .u64 (yn : Int)) (T := 247) rfl)
    clear hba H5
    go_wp2_with (first | (at_builtin; refine wpList_append_pair rfl _ _ rfl w.heap.size A cap k (ps.take k) rfl HTL.out H6.out.own ⟨W5.heap.size, 0, none⟩ 1 (x, (yn : Int)) rfl HN0.out HN1.out (by omega) _ (Below.refl _ _) H6.out.sz ?_; intro A' cap' w7 HO hb7) | fail)
    have H7 : Hid (GetJ w w7 b A' cap' (ps.take (k + 1)) (pairsB (lastO none (ps.take (k + 1))) (ps.drop (k + 1)) ++ rest)) := by
     have h1 := HO.out
     rw [← HTK.out] at h1
     exact H6.out.app h1 hb7
    clear HO hb7 H6 HN0 HN1
    go_wp2
    exact ⟨⟨k + 1, by omega, by simp, A', cap', rfl, H7⟩, by simp [intOf]; omega⟩
   ·have hkz : ((k : Int) == 0) = false := beq_eq_false_iff_ne.2 (by omega)
    obtain ⟨j, rfl⟩ : ∃ j, k = j + 1 := ⟨k - 1, by omega⟩
    obtain ⟨⟨p, py⟩, hpy⟩ : ∃ x, ps[j]? = some x := ⟨_, List.getElem?_eq_getElem (by have := HN.out; omega)⟩
    have HPB := Lib.hid (HP.out.nn _ (List.mem_of_getElem? hpy))
    have hlt' : p < x := by have := HP.out.gd.step hxy hpy; dsimp only at this; exact this
    have hpb : -9223372036854775808 ≤ p ∧ p ≤ 9223372036854775807 := by have := HPB.out; dsimp only at this; omega
    obtain ⟨d, hd⟩ : ∃ d : Nat, x - p - 1 = (d : Int) := ⟨(x - p - 1).toNat, by omega⟩
    have hsum : p + (d : Int) + 1 = x := by omega
    have hpm : (p == 9223372036854775807) = false := beq_eq_false_iff_ne.2 (by omega)
    obtain ⟨q, hq⟩ : ∃ q, 9223372036854775806 - p = q := ⟨_, rfl⟩
    have HQ : Hid ((d : Int) ≤ q ∧ d < 18446744073709551616) := by show _ ∧ _; omega
    obtain ⟨pw, c2⟩ : ∃ z, IntKind.u64.wrap p = z := ⟨_, rfl⟩
    obtain ⟨sw, c6⟩ : ∃ z, IntKind.u64.wrap (pw + (d : Int)) = z := ⟨_, rfl⟩
    obtain ⟨tw, c7⟩ : ∃ z, IntKind.u64.wrap (sw + 1) = z := ⟨_, rfl⟩
    have c5 : IntKind.u64.wrap (9223372036854775806 - pw) = q := by subst c2; simp only [IntKind.wrap_u64]; omega
    have c8 : IntKind.i64.wrap tw = x := by subst c7 c6 c2; simp only [IntKind.wrap_u64, IntKind.wrap_i64]; omega
    clear hsum hpb hq
    have HL : Hid (pairsB (lastO none (ps.take (j + 1))) (ps.drop (j + 1)) ++ rest = natB d ++ (natB yn ++ (pairsB (lastO none (ps.take (j + 1 + 1))) (ps.drop (j + 1 + 1)) ++ rest))) := by
     show _ = _
     rw [lastO_succ hxy, lastO_succ hpy, drop_at hxy]
     show natB (x - p - 1).toNat ++ natB (yn : Int).toNat ++ _ ++ _ = _
     rw [show (x - p - 1).toNat = d by omega]
     simp
    have HE1 : Hid (Eye (wr.alloc (.cells #[.int .i64 0, .int .u64 0] 247)) b (natB d ++ (natB yn ++ (pairsB (lastO none (ps.take (j + 1 + 1))) (ps.drop (j + 1 + 1)) ++ rest)))) := by show Eye _ _ _; rw [← HL.out]; exact H1.out.eye
    obtain ⟨g, o', rfl, hg, d1, _⟩ := (H1.out.own.rd).at j (by rw [HTL.out]; omega)
    have ej : ((ps.take (j + 1))[j]'(by rw [HTL.out]; omega)).1 = p := by
     obtain ⟨hj', e⟩ := List.getElem?_eq_some_iff.1 hpy
     rw [List.getElem_take, e]
    rw [ej] at d1
    clear hba aV hk0 hxy hpy hd ej hlt'
    go_wp2_with fail
    clear d1 hg hpm
    obtain ⟨vb, hvb⟩ : ∃ r, wr.heap.size = r := ⟨_, rfl⟩
    obtain ⟨W1, hW1⟩ : ∃ W, wr.alloc (.cells #[.int .i64 0, .int .u64 0] 247) = W := ⟨_, rfl⟩
    have HVB : Hid (w.heap.size ≤ vb ∧ vb ∉ blk (some (⟨g, o', none⟩ : Addr))) := ⟨by rw [← hvb]; exact H.out.sz, fun hm => by have := (H.out.blk vb hm).2; omega⟩
    have HVN : Hid (vb ≠ b) := fun e => by have := H.out.lt; have := H.out.sz; omega
    rw [hW1] at H1 HV1 HE1
    rw [hvb] at HV1
    simp only [hW1, hvb]
    clear hW1 hvb H
    refine (enat_any b d q _ W1 HE1.out HQ.out.2 HQ.out.1 (by have h1 := HRL.out; have h2 := natB_len (u := yn) (by have := HYB.out; omega); rw [List.length_append]; omega)).mono ?_
    rintro e w2 ⟨rfl, hE, hF⟩
    have H2 : Hid (GetJ w w2 b (some ⟨g, o', none⟩) cap (ps.take (j + 1)) (natB yn ++ (pairsB (lastO none (ps.take (j + 1 + 1))) (ps.drop (j + 1 + 1)) ++ rest))) := H1.out.read hE hF
    have HV2 : Hid (At w2 vb #[.int .i64 0, .int .u64 0] 247) := hF.at HV1.out (by simp only [List.mem_singleton]; exact HVN.out)
    have f2 := HV2.out.two
    have l2 := HV2.out.lt
    clear H1 HV1 HE1 HL
    clear hE hF
    go_wp2_with fail
    have a3 := HV2.out.set_any 0 (.int .i64 x) rfl
    obtain ⟨W3, hW3⟩ : ∃ W, w2.setCell ⟨vb, 0, none⟩ (.int .i64 x) = W := ⟨_, rfl⟩
    have hS3 : Frame [vb] w2 W3 := by rw [← hW3]; exact Frame.set [vb] w2 vb 0 _ (by simp)
    rw [hW3] at a3 ⊢
    have H3 : Hid (GetJ w W3 b (some ⟨g, o', none⟩) cap (ps.take (j + 1)) (natB yn ++ (pairsB (lastO none (ps.take (j + 1 + 1))) (ps.drop (j + 1 + 1)) ++ rest))) := H2.out.at hS3 HVB.out.1 HVB.out.2
    have HV3 : Hid (At W3 vb #[.int .i64 x, .int .u64 0] 247) := a3
    clear hW3 a3 hS3 H2 HV2
    refine (ecount_any b yn _ W3 H3.out.eye HYB.out.1 HYB.out.2 (by have := HRL.out; omega)).mono ?_
    rintro e w4 ⟨rfl, hE, hF⟩
    have H4 : Hid (GetJ w w4 b (some ⟨g, o', none⟩) cap (ps.take (j + 1)) (pairsB (lastO none (ps.take (j + 1 + 1))) (ps.drop (j + 1 + 1)) ++ rest)) := H3.out.read hE hF
    have HV4 : Hid (At w4 vb #[.int .i64 x, .int .u64 0] 247) := hF.at HV3.out (by simp only [List.mem_singleton]; exact HVN.out)
    have f4 := HV4.out.two
    have l4 := HV4.out.lt
    clear hE hF H3 HV3
    go_wp2_with fail
    have a5 := HV4.out.set_any 1 (.int .u64 (yn : Int)) rfl
    obtain ⟨W5, hW5⟩ : ∃ W, w4.setCell ⟨vb, 1, none⟩ (.int .u64 (yn : Int)) = W := ⟨_, rfl⟩
    have hS5 : Frame [vb] w4 W5 := by rw [← hW5]; exact Frame.set [vb] w4 vb 1 _ (by simp)
    rw [hW5] at a5 ⊢
    have H5 : Hid (GetJ w W5 b (some ⟨g, o', none⟩) cap (ps.take (j + 1)) (pairsB (lastO none (ps.take (j + 1 + 1))) (ps.drop (j + 1 + 1)) ++ rest)) := H4.out.at hS5 HVB.out.1 HVB.out.2
    have HV5 : Hid (At W5 vb #[.int .i64 x, .int .u64 (yn : Int)] 247) := a5
    clear hW5 a5 hS5 H4 HV4 f4 l4
    refine (ebad_any b _ W5 H5.out.eye).mono ?_
    rintro e w6 ⟨rfl, rfl⟩
    have f5 := HV5.out.two
    have l5 := HV5.out.lt
    have hba : Below W5.heap.size W5 (W5.alloc (.cells #[.int .i64 x, .int .u64 (yn : Int)] 247)) := (Below.refl _ _).alloc (Nat.le_refl _) _
    have H6 := Lib.hid (H5.out.below hba)
    have HN0 := Lib.hid (new_two0 (w := W5) (u0 := .int .i64 x) (u1 := .int .u64 (yn : Int)) (T := 247) rfl)
    have HN1 := Lib.hid (new_two1 (w := W5) (u0 := .int .i64 x) (u1 := .int .u64 (yn : Int)) (T := 247) rfl)
    clear hba H5
    go_wp2_with (first | (at_builtin; refine wpList_append_pair rfl _ _ rfl w.heap.size (some ⟨g, o', none⟩) cap (j + 1) (ps.take (j + 1)) rfl HTL.out H6.out.own ⟨W5.heap.size, 0, none⟩ 1 (x, (yn : Int)) rfl HN0.out HN1.out (by omega) _ (Below.refl _ _) H6.out.sz ?_; intro A' cap' w7 HO hb7) | fail)
    have H7 : Hid (GetJ w w7 b A' cap' (ps.take (j + 1 + 1)) (pairsB (lastO none (ps.take (j + 1 + 1))) (ps.drop (j + 1 + 1)) ++ rest)) := by
     have h1 := HO.out
     rw [← HTK.out] at h1
     exact H6.out.app h1 hb7
    clear HO hb7 H6 HN0 HN1
    go_wp2
    exact ⟨⟨j + 1 + 1, by omega, by simp, A', cap', rfl, H7⟩, by simp [intOf]; omega⟩
  ·obtain rfl : k = n := by omega
   have HT : Hid (ps.take k = ps ∧ ps.drop k = []) := ⟨List.take_of_length_le (by have := HN.out; omega), List.drop_eq_nil_of_le (by have := HN.out; omega)⟩
   have HFIN : Hid (RdP wr A ps ∧ Eye wr b rest ∧ Frame [b] w wr) := by
    have h1 := H.out.own.rd
    have h2 := H.out.eye
    rw [HT.out.1] at h1
    rw [HT.out.2] at h2
    have e : ∀ o, pairsB o [] = [] := fun o => by cases o <;> rfl
    rw [e, List.nil_append] at h2
    exact ⟨h1, h2, H.out.fr⟩
   go_wp2
   go_ret
   exact ⟨A, cap, rfl, HFIN.out⟩
end Go.Proofs.YtlbnlmhcpephbaaGreatDoor
