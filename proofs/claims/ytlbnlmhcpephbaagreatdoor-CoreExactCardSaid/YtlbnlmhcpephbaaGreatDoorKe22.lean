/- Texts of this claim, joined, indents halved: ECg, ERv, ERq1, ERq2, ERq3. -/
import Derived.Test.YtlbnlmhcpephbaaGreatDoorProg
import Derived.Shelf.RegionOpen
import Derived.Deep.Upon
import Derived.Test.YtlbnlmhcpephbaaGreatDoorKe21
namespace Go.Proofs.YtlbnlmhcpephbaaGreatDoor
open Go.RowKit
set_option maxRecDepth 100000
set_option maxHeartbeats 4000000
structure GrJ (w W : World) (b r c : Nat) (cv : Array Value) (A : Option Addr) (cap : Nat) (ts : List Tu) (l : List UInt8) : Prop where
 j : RdS w W b [(c, cv, 28), (r, CR 0 0 0 0 0 0 0 0 0 0 0, 28)] l
 own : OwT (c + 1) W A cap ts
section
variable {w w' W W' : World} {b r c m n un vn cap : Nat} {A : Option Addr} {N lo hi : Int} {ts : List Tu} {ws : List Int} {l rest : List UInt8} {cv : Array Value}
theorem GrJ.ac (h : GrJ w W b r c cv A n ts l) : At W c cv 28 := (h.j.k (c, cv, 28) (by simp)).1
theorem GrJ.ar (h : GrJ w W b r c cv A n ts l) : At W r (CR 0 0 0 0 0 0 0 0 0 0 0) 28 := (h.j.k (r, _, _) (by simp)).1
theorem ebad_shut (h : At w b #[.string ByteArray.empty, .bool true] 188) : Calls Tryz.prog 84 #[.pointer (some ⟨b, 0, none⟩)] w fun e w' => e = .returned (.bool true) ∧ w = w' := by
 have f1 := h.two
 have l1 := h.lt
 clear h
 go_enter Tryz.func84, Tryz.ntmps84
 go_wp2
 go_ret
 exact ⟨rfl, rfl⟩
theorem rd_no {kd pn pd sd mo dg li de fa wi wo : Int} {T : TypeId} {X : World → Nat → List Nat → Prop} (h : Frame [b] w W) (hr : w.heap.size ≤ r) (v : Value) :
  RdF b (.agg (CR kd pn pd sd mo dg li de fa wi wo)) T X w (.returned (.tuple #[.agg (CR kd pn pd sd mo dg li de fa wi wo), v, .bool false])) (((((((((((W.setCell ⟨r, 0, none⟩ (.int .i64 kd)).setCell ⟨r, 1, none⟩ (.int .u64 pn)).setCell ⟨r, 2, none⟩ (.int .u64 pd)).setCell ⟨r, 3, none⟩ (.int .i64 sd)).setCell ⟨r, 4, none⟩ (.int .i64 mo)).setCell ⟨r, 5, none⟩ (.int .i64 dg)).setCell ⟨r, 6, none⟩ (.int .u64 li)).setCell ⟨r, 7, none⟩ (.int .i64 de)).setCell ⟨r, 8, none⟩ (.int .i64 fa)).setCell ⟨r, 9, none⟩ (.int .i64 wi)).setCell ⟨r, 10, none⟩ (.int .u64 wo)) := by
 have f := Frame.set11 W r (.int .i64 kd) (.int .u64 pn) (.int .u64 pd) (.int .i64 sd) (.int .i64 mo) (.int .i64 dg) (.int .u64 li) (.int .i64 de) (.int .i64 fa) (.int .i64 wi) (.int .u64 wo)
 exact .inr ⟨v, rfl, f.os.trans h.os, f.tape.trans h.tape, f.output.trans h.output, Nat.le_trans h.size f.size, fun j hj hn => (f.block j (Nat.lt_of_lt_of_le hj h.size) (by simp only [List.mem_singleton]; omega)).trans (h.block j hj hn)⟩
theorem gread_w {X : World → Nat → List Nat → Prop} (hX : ∀ W W' q Q S, X W q Q → Frame S W W' → Apart Q S → X W' q Q) (g : GrI ts ws N lo hi) (hN : N ≤ 8000) (hw : ws.length ≤ 15) (hu : un ≤ 2147483648 ∧ vn ≤ 2147483648) (hE : Eye w b (natsB [un, vn, ts.length] ++ tupsB ts ++ natsB [ws.length] ++ intsB ws)) (hl : (natsB [un, vn, ts.length] ++ tupsB ts ++ natsB [ws.length] ++ intsB ws).length ≤ 300000)
  (hL : ∀ W A B c d n m, OwT 0 W A c ts → OwnW 0 W B d ws → ts.length = n → ws.length = m → Calls Tryz.prog 91 #[.agg #[.int .u64 un, .int .u64 vn], .slice A n c, .slice B m d] W (NwC X W)) :
  Calls Tryz.prog 70 #[pt b] w (RdF b (.agg (CR 4 un vn 0 0 0 0 0 0 0 0)) Kd.gre.T X w) := by
 have gl := g.len
 obtain ⟨m, hm⟩ : ∃ n, ts.length = n := ⟨_, rfl⟩
 obtain ⟨n, hn⟩ : ∃ n, ws.length = n := ⟨_, rfl⟩
 have HN := Lib.hid (And.intro hm hn)
 rw [hm, hn] at hE hl gl
 obtain ⟨r5, h5⟩ : ∃ r, natB n ++ (intsB ws ++ []) = r := ⟨_, rfl⟩
 have J : Hid (RdS w w b [] (natB un ++ (natB vn ++ (natB m ++ (tupsB (ts.drop 0) ++ r5))))) := by
  have e : natsB [un, vn, m] ++ tupsB ts ++ natsB [n] ++ intsB ws = natB un ++ (natB vn ++ (natB m ++ (tupsB (ts.drop 0) ++ r5))) := by rw [← h5]; simp [natsB]
  rw [e] at hE hl
  exact RdS.start hE hl
 have J := Lib.hid (J.out.new (CR 0 0 0 0 0 0 0 0 0 0 0))
 have H5 := Lib.hid h5
 have Z := Lib.hid (And.intro hX (And.intro hu g.2.2))
 have TB := Lib.hid fun x hx => g.1.bd (by omega) (x := x) hx
 have HL := Lib.hid hL
 have m8 : m ≤ 8000 := by omega
 have n15 : n ≤ 15 := by omega
 clear hX g hN hw hu hE hl hL hm hn gl h5
 go_enter Tryz.func70, Tryz.ntmps70
 go_wp2_with fail
 generalize w.alloc _ = W0 at *
 obtain ⟨r, hr⟩ : ∃ r, w.heap.size = r := ⟨_, rfl⟩
 have RZ : Hid (w.heap.size ≤ r) := Nat.le_of_eq hr
 rw [hr] at J
 simp only [hr]
 clear hr
 refine (spart_any b un vn _ W0 J.out.j.eye (by have := Z.out.2.1; omega) (by have := Z.out.2.1; omega) (by have := J.out.ln; simp only [List.length_append] at this ⊢; omega)).mono ?_
 rintro e w1 ⟨rfl, hE, hF⟩
 have J1 : RdS w w1 b _ _ := RdS.read (l := natB un ++ natB vn) (by rw [List.append_assoc]; exact J.out) hE hF
 have J := Lib.hid (J1.new (CR 4 un vn 0 0 0 0 0 0 0 0))
 clear hE hF
 go_wp2_with fail
 generalize w1.alloc _ = W2 at *
 obtain ⟨c, hc⟩ : ∃ c, w1.heap.size = c := ⟨_, rfl⟩
 have RC : Hid (r < c) := hc ▸ (J1.k (r, CR 0 0 0 0 0 0 0 0 0 0 0, 28) (by simp)).1.lt
 rw [hc] at J
 simp only [hc]
 clear hc J1
 refine (J.out.small (by omega)).mono ?_
 rintro e w3 ⟨rfl, J4⟩
 have J : Hid (GrJ w w3 b r c (CR 4 un vn 0 0 0 0 0 0 0 0) none 0 (ts.take 0) (tupsB (ts.drop 0) ++ r5)) := ⟨J4, World.ownsRow_nil _ _ _ _⟩
 clear J4
 go_wp2
 go_loopw [6, 7, 15] (fun out _ i wr => ∃ k : Nat, k ≤ m ∧ i = .int .i64 k ∧ ∃ A cap, out = .slice A k cap ∧ Hid (GrJ w wr b r c (CR 4 un vn 0 0 0 0 0 0 0 0) A cap (ts.take k) (tupsB (ts.drop k) ++ r5))) (fun _ _ i _ => m - (intOf i).toNat)
 case atStart => exact ⟨0, by omega, rfl, none, 0, rfl, J⟩
 case round =>
  clear J
  obtain ⟨k, hk, rfl, A, cap, rfl, JL⟩ := hrel
  by_cases hlt : k < m
  ·have hkl : k < ts.length := by have := HN.out; omega
   have px := TB.out _ (List.getElem_mem hkl)
   have tk := (tupsB_cut hkl).2
   have T2 := Lib.hid (List.take_succ_eq_append_getElem hkl)
   have TL : Hid ((ts.take k).length = k) := by show _ = _; rw [List.length_take]; omega
   obtain ⟨⟨x1, x2, x3⟩, hx⟩ : ∃ x, ts[k] = x := ⟨_, rfl⟩
   rw [hx] at px tk T2
   dsimp only at px
   obtain ⟨u, rfl⟩ : ∃ u : Nat, x2 = u := ⟨x2.toNat, by omega⟩
   obtain ⟨v, rfl⟩ : ∃ u : Nat, x3 = u := ⟨x3.toNat, by have := px.2.2.1; omega⟩
   have PX := Lib.hid px
   have hu : 0 < u ∧ u ≤ 9223372036854775807 := by omega
   have B0 : Hid (c + 1 ≤ wr.heap.size ∧ b < w.heap.size ∧ w.heap.size ≤ r) := ⟨JL.out.ac.lt, JL.out.j.j.lt, RZ.out⟩
   have E : Hid (tupsB (ts.drop k) ++ r5 = (natB (zigN x1) ++ (natB u ++ natB v)) ++ (tupsB (ts.drop (k + 1)) ++ r5)) := by show _ = _; rw [tk]; simp [tupB, intsB, natsB]
   have JJ : RdS wr wr b [] (natB (zigN x1) ++ (natB u ++ (natB v ++ (tupsB (ts.drop (k + 1)) ++ r5)))) := by
    have := RdS.start JL.out.j.j.eye JL.out.j.ln
    rw [E.out] at this
    simpa using this
   clear tk hkl hx px
   go_wp2_with fail
   refine (JJ.int PX.out.2.1).mono ?_
   rintro e w5 ⟨rfl, J5⟩
   go_wp2_with fail
   refine (J5.count hu).mono ?_
   rintro e w6 ⟨rfl, J6⟩
   go_wp2_with fail
   refine (enat_or b v 9223372036854775807 _ w6 J6.j.eye (by have := PX.out.2.2.2; omega) (by have := J6.ln; simp only [List.length_append] at this ⊢; omega)).mono ?_
   rintro e w7 ⟨⟨_, rfl, hE⟩ | ⟨_, rfl, hA⟩, hF⟩
   rotate_left
   ·have FF := (JL.out.j.j.fr.trans J6.j.fr).trans hF
    have s7 := At.below hA (bn w7 (.cells #[.int .i64 x1, .int .u64 (u : Int), .int .u64 0] 230))
    have nr : ∀ j, w.heap.size ≤ j → j ∉ [b] := fun j hj hm => by simp only [List.mem_singleton] at hm; have := B0.out; omega
    have ac := ((hF.at (J6.j.fr.at JL.out.ac (nr c (by have := RC.out; have := RZ.out; omega))) (nr c (by have := RC.out; have := RZ.out; omega))).below (bn w7 (.cells #[.int .i64 x1, .int .u64 (u : Int), .int .u64 0] 230)))
    have ar := ((hF.at (J6.j.fr.at JL.out.ar (nr r RZ.out)) (nr r RZ.out)).below (bn w7 (.cells #[.int .i64 x1, .int .u64 (u : Int), .int .u64 0] 230)))
    have F := Lib.hid (rd_no (kd := 4) (pn := un) (pd := vn) (sd := 0) (mo := 0) (dg := 0) (li := 0) (de := 0) (fa := 0) (wi := 0) (wo := 0) (T := Kd.gre.T) (X := X) (FF.trans (Frame.of_below (S := [b]) (bn w7 (.cells #[.int .i64 x1, .int .u64 (u : Int), .int .u64 0] 230)))) RZ.out .nilIface)
    clear FF hF hA J6 J5 JJ E T2 TL JL nr
    go_wp2_with fail
    generalize w7.alloc _ = W8 at *
    refine (ebad_shut s7).mono ?_
    rintro e w9 ⟨rfl, rfl⟩
    have g1 := ar.el
    have m1 := ar.lt
    have g2 := ac.el
    have m2 := ac.lt
    have rc : r ≠ c := by have := RC.out; omega
    go_wp2
    have d2 := (At.set11 ar (.int .i64 4) (.int .u64 un) (.int .u64 vn) (.int .i64 0) (.int .i64 0) (.int .i64 0) (.int .u64 0) (.int .i64 0) (.int .i64 0) (.int .i64 0) (.int .u64 0)).el
    generalize (((((((((((W8.setCell _ _).setCell _ _).setCell _ _).setCell _ _).setCell _ _).setCell _ _).setCell _ _).setCell _ _).setCell _ _).setCell _ _).setCell _ _) = W10 at *
    exact bodyPost_ret (by simp only [results, Tryz.f70]; simp [go_sem, d2]) rfl F.out
   have J7 := J6.read hE hF
   have JN := JL.out.j
   rw [E.out] at JN
   have J8 := (JN.again J7).below (bn w7 (.cells #[.int .i64 x1, .int .u64 (u : Int), .int .u64 (v : Int)] 230))
   have nb : ∀ j ∈ blk A, j ∉ [b] := fun j hj hm => by have := (own_blk JL.out.own j hj).1; have := B0.out; have := RC.out; simp only [List.mem_singleton] at hm; omega
   have ow : OwT (c + 1) w7 A cap (ts.take k) := own_frame JL.out.own J7.j.fr nb
   have aV := At.new w7 #[.int .i64 x1, .int .u64 (u : Int), .int .u64 (v : Int)] 230
   have SZ : c + 1 ≤ w7.heap.size := Nat.le_trans B0.out.1 J7.j.fr.size
   obtain ⟨A', c', w9, hr, ho, hF9, hB⟩ := app_t (x := x1) (y := u) (z := v) (W := w7.alloc (.cells #[.int .i64 x1, .int .u64 (u : Int), .int .u64 (v : Int)] 230)) ow (by rw [TL.out]; omega) SZ (bn _ _)
   rw [TL.out] at hr
   have J9 : Hid (GrJ w w9 b r c (CR 4 un vn 0 0 0 0 0 0 0 0) A' c' (ts.take (k + 1)) (tupsB (ts.drop (k + 1)) ++ r5)) := ⟨J8.step hF9 fun j hj => by
     have h1 := (own_blk ow j hj).1
     have h2 := B0.out
     have h3 := RC.out
     refine ⟨by omega, fun p hp => ?_⟩
     simp only [List.mem_cons, List.not_mem_nil, or_false] at hp
     rcases hp with rfl | rfl <;> dsimp only <;> omega, by rw [T2.out]; exact ho⟩
   have HR := Lib.hid hr
   have HE := Lib.hid J8.j.eye
   have a3 := aV.three
   have l3 := aV.lt
   clear hr ho hF9 hB aV ow nb J8 JN J7 E B0 T2 TL JL JJ hu hE hF J6 J5 SZ
   go_wp2_with fail
   generalize w7.alloc _ = W8 at *
   refine (ebad_any b _ W8 HE.out).mono ?_
   rintro e w8 ⟨rfl, rfl⟩
   go_wp2_with (first | (at_builtin; refine Lib.wpList_append_run _ rfl _ _ _ _ rfl _ _ rfl rfl _ _ HR.out ?_) | fail)
   clear HR HE a3 l3
   go_wp2
   exact ⟨⟨k + 1, by omega, by simp, A', c', rfl, J9⟩, by simp [intOf]; omega⟩
  ·obtain rfl : k = m := by omega
   have D := JL.out
   rw [List.take_of_length_le (by have := HN.out; omega), show tupsB (ts.drop k) ++ r5 = natB n ++ (intsB ws ++ []) by rw [List.drop_eq_nil_of_le (by have := HN.out; omega), H5.out]; rfl] at D
   have f3 := D.ac.el
   have l3 := D.ac.lt
   have J := Lib.hid (D.j.below (Below.refl _ _).drew)
   have O := Lib.hid (own_frame (T := []) D.own (Frame.of_below (Below.refl wr.heap.size wr).drew) fun _ _ => by simp)
   have CB : Hid (b < c + 1) := by have := D.j.j.lt; have := RC.out; have := RZ.out; show _ < _; omega
   clear D JL hlt
   go_upto_region 12 with fail
   refine held_h (S := HeldS (AtH c (CR 4 un vn 0 0 0 0 0 0 0 0) 28)) (by kernel_rfl) (HeldS.mk' (J.out.k (c, _, _) (by simp)).1) (fun hHeld => ?_)
   generalize wr.drew = W4 at *
   have hne := hHeld.ne
   have hf := fun x => (hHeld.get x).a.el
   clear f3 l3
   refine runH [5] 8 hHeld ?_
   simp only [runL, runN, runOps_true, runOps_false, runOps_nil]
   repeat go_big_quiet_step (fail)
   refine wpQuiet_nil ?_
   clear hf
   have nb : ∀ W W' : World, Frame [b] W W' → OwT (c + 1) W A cap ts → OwT (c + 1) W' A cap ts := fun W W' hF o => own_frame o hF fun j hj hm => by have := (own_blk o j hj).1; have := CB.out; simp only [List.mem_singleton] at hm; omega
   have S4 := Lib.hid (RdS.start J.out.j.eye J.out.ln)
   refine readyH 5 fun K hK => ?_
   go_simp
   go_wp2_with (go_at_call 64; refine (S4.out.small (by omega)).mono ?_; rintro e w5 ⟨rfl, J5⟩)
   refine hK.out _ _ ?_ (fun hHeld => ?_)
   clear hK K
   ·exact HeldS.mk' (J.out.again J5 |>.k (c, _, _) (by simp)).1
   replace J := Lib.hid (J.out.again J5)
   replace O := Lib.hid (nb _ _ J5.j.fr O.out)
   have S5 := Lib.hid (RdS.start J5.j.eye J5.ln)
   clear J5 S4
   refine readyH 6 fun K hK => ?_
   go_simp
   go_wp2_with (go_at_call 92; refine (S5.out.ints HN.out.2 (by omega) Z.out.2.2).mono ?_; rintro e w6 ⟨A6, c6, rfl, o6, J6⟩)
   refine hK.out _ _ ?_ (fun hHeld => ?_)
   clear hK K
   ·exact HeldS.mk' (J.out.again J6 |>.k (c, _, _) (by simp)).1
   replace J := Lib.hid (J.out.again J6)
   replace O := Lib.hid (nb _ _ J6.j.fr O.out)
   have LD := Lib.hid (HL.out w6 A A6 cap c6 k n (own_low O.out (Nat.zero_le _)) (own_low o6 (Nat.zero_le _)) HN.out.1 HN.out.2)
   have SZ : Hid (w.heap.size ≤ w6.heap.size ∧ r < w6.heap.size) := ⟨J.out.j.fr.size, (J.out.k (r, CR 0 0 0 0 0 0 0 0 0 0 0, 28) (by simp)).1.lt⟩
   clear J6 S5 o6 HL nb O
   refine readyH 7 fun K hK => ?_
   go_simp
   go_wp2_with (go_at_call 91; refine LD.out.mono ?_; intro e w7 h7; obtain ⟨p, f, rfl, hb, hc⟩ := h7.any SZ.out.1 SZ.out.2 Kd.gre.T)
   refine hK.out _ _ ?_ (fun hHeld => ?_)
   clear hK K
   ·exact HeldS.mk' (J.out.below hb |>.k (c, _, _) (by simp)).1
   refine runH [0, 8, 5] 0 hHeld ?_
   simp only [runL, runN, runOps_true, runOps_false, runOps_nil]
   repeat go_big_quiet_step (fail)
   refine wpQuiet_nil ?_
   refine doneH ?_
   replace J := Lib.hid (J.out.below hb)
   have F := Lib.hid (J.out.fin (r := r) (kd := 4) (pn := un) (pd := vn) (sd := 0) (mo := 0) (dg := 0) (li := 0) (de := 0) (fa := 0) (wi := 0) (wo := 0) RZ.out Z.out.1 _ _ hc)
   have ar := (J.out.k (r, CR 0 0 0 0 0 0 0 0 0 0 0, 28) (by simp)).1
   have ac := (J.out.k (c, CR 4 un vn 0 0 0 0 0 0 0 0, 28) (by simp)).1
   have g1 := ar.el
   have m1 := ar.lt
   have g2 := ac.el
   have m2 := ac.lt
   clear hHeld hne LD J SZ Z hb hc h7
   go_wp2
   have d2 := (At.set11 ar (.int .i64 4) (.int .u64 un) (.int .u64 vn) (.int .i64 0) (.int .i64 0) (.int .i64 0) (.int .u64 0) (.int .i64 0) (.int .i64 0) (.int .i64 0) (.int .u64 0)).el
   generalize (((((((((((w7.setCell _ _).setCell _ _).setCell _ _).setCell _ _).setCell _ _).setCell _ _).setCell _ _).setCell _ _).setCell _ _).setCell _ _).setCell _ _) = W10 at *
   exact bodyPost_ret (by simp only [results, Tryz.f70]; simp [go_sem, d2]) rfl F.out
end
def Xg (pn pd : Int) : CoT := fun w q Q _ N lo hi => ∃ x y, Gk w q Q pn pd N x y ∧ (N ≠ 0 → x = lo ∧ y = hi) ∧ (0 ≤ pn ∧ pn ≤ 2147483648) ∧ 0 ≤ pd ∧ pd ≤ 2147483648
theorem core_gre (pn pd : Int) (hp : U64 pn) (hd : U64 pd) : CoreW .gre pn pd 0 0 0 0 0 0 0 0 (Xg pn pd) where
 frame := by
  rintro w w' q Q T m N lo hi ⟨x, y, h, e⟩ hF hn
  exact ⟨x, y, h.frame hF hn, e⟩
 lt := by
  rintro w q Q m N lo hi ⟨x, y, h, e⟩
  exact h.lt.1
 new w _ := (gnew_any (u := pn) hd).mono fun e w' ⟨h, hb⟩ => ⟨h.elim (fun ⟨b, he, hz, h, h1, h2⟩ => .inl ⟨b, [b], he, fun j hj => by
   rw [List.mem_singleton] at hj
   subst hj
   exact ⟨hz, h.box.lt⟩, 0, 0, ⟨none, none, 0, 0, [], [], rfl, h, ⟨TuS.nil, ⟨by simp [vT], by simp [vT], .inl rfl, .inl rfl⟩, by simp⟩, by simp, hd⟩, fun e => absurd rfl e, ⟨hp.1, h1⟩, hd.1, h2⟩) fun ⟨f, hf, he⟩ => .inr ⟨f, hf, he⟩, hb⟩
 put := by
  rintro w q Q m N lo hi x n ⟨a, c, h, he, hu⟩ h3 hx h0 hs _
  refine (gput_any h hx h0 (by omega)).mono ?_
  rintro e w' ⟨f, rfl, ⟨hf, hb⟩ | ⟨rfl, hn, Q', mv, h'⟩⟩
  ·exact ⟨f, rfl, .inl ⟨hf, _, Mv.of _ hb, a, c, h.below hb, he, hu⟩⟩
  ·exact ⟨0, rfl, .inr ⟨rfl, hn, _, mv, _, _, h', fun _ => ends_c he, hu⟩⟩
 join := by
  rintro w q Q m N lo hi r R m2 M lo2 hi2 ⟨a, c, h, he, hu⟩ ⟨a2, c2, k, he2, _⟩ ap hmm hs hx hy
  refine (gjoin_any h k ap (by omega)).mono ?_
  rintro e w' ⟨f, rfl, ⟨hf, hb⟩ | ⟨rfl, Q', mv, h'⟩⟩
  ·exact ⟨f, rfl, .inl ⟨hf, Frame.of_below hb⟩⟩
  ·refine ⟨0, rfl, .inr ⟨rfl, _, mv, _, _, h', fun z => ?_, hu⟩⟩
   by_cases z2 : M = 0
   ·rw [if_pos z2, if_pos z2, if_pos z2, if_pos z2]; exact he (by omega)
   ·obtain ⟨rfl, rfl⟩ := he2 z2
    rw [if_neg z2, if_neg z2, if_neg z2, if_neg z2]; exact ends_c he
 tot := by
  rintro w q Q m N lo hi ⟨a, c, ⟨R, V, rc, wc, ts, ws, rfl, h, g, hw, _⟩, he, hu⟩ h7
  exact ctot_w .gre q _ w (fun h => by cases h) fun W hW => (gtotal_any (h.below hW).box).mono fun e w' ⟨he, hw⟩ => ⟨he, hw ▸ Below.refl _ _⟩
 ends := by
  rintro w q Q m N lo hi ⟨a, c, ⟨R, V, rc, wc, ts, ws, rfl, h, g, hw, _⟩, he, hu⟩ h7
  rw [← endW_c he]
  exact gends_any h g (by omega)
 code := by
  rintro w q Q m N lo hi ⟨a, c, ⟨R, V, rc, wc, ts, ws, rfl, h, g, hw, hv⟩, he, h1, h2⟩ h3 h7 hx hy
  obtain ⟨un, rfl⟩ : ∃ n : Nat, pn = n := ⟨pn.toNat, by omega⟩
  obtain ⟨vn, rfl⟩ : ∃ n : Nat, pd = n := ⟨pd.toNat, by omega⟩
  have gl := g.len
  have hl : (natsB [un, vn, ts.length] ++ tupsB ts ++ natsB [ws.length] ++ intsB ws).length ≤ 262144 := by
   have a1 := natsB_len (l := [un, vn, ts.length]) fun u hu => by simp only [List.mem_cons, List.not_mem_nil, or_false] at hu; omega
   have a2 := tupsB_len fun x hx => g.1.bd (by omega) (x := x) hx
   have a3 := natsB_len (l := [ws.length]) fun u hu => by simp only [List.mem_singleton] at hu; omega
   have a4 := intsB_len g.2.2
   simp only [List.length_append, List.length_cons, List.length_nil] at *
   omega
  refine ⟨_, hl, ?_, fun W qb hb hq hg => gwrite_w h g (by omega) (by omega) hb hq hg, fun W eb hT hE => ?_⟩
  ·simp only [List.append_assoc]; exact nats_ne _ _ _
  ·refine gread_w (fun W W' q Q S ⟨x, y, h, e⟩ hF hn => ⟨x, y, h.frame hF hn, e⟩) g (by omega) hw (by omega) hE (by omega) fun W A B c d n m hA hB e1 e2 => ?_
   refine (gload_any hA hB g (by omega) hv e1 e2).mono ?_
   rintro e w' ⟨⟨b, S, rfl, h', hm, hw⟩ | ⟨f, hf, rfl⟩, hb⟩
   ·exact ⟨.inl ⟨b, S, rfl, hw, _, _, h', he, h1, h2⟩, hb⟩
   ·exact ⟨.inr ⟨f, hf, rfl⟩, hb⟩
end Go.Proofs.YtlbnlmhcpephbaaGreatDoor

namespace Go.Proofs.YtlbnlmhcpephbaaGreatDoor
open Go.RowKit Go.Shelf
attribute [local go_sem] Oper.semAt_some
theorem KpB.rd {n₀ Bn : Nat} {W W' : World} {A : Option Addr} {cs : List Value} (h : KpB n₀ Bn W W') (r : Rd W A cs) (hb : ∀ a, A = some a → cs ≠ [] → a.block < n₀) : Rd W' A cs := fun j u hj => by
 obtain ⟨g, o, e, hg, hc⟩ := r j u hj
 have hk := h g (.inl (hb _ e fun e => by simp [e] at hj))
 exact ⟨g, o, e, World.block_lt_of_cell? _ _ ((World.cell?_of_block (a := ⟨g, o + j, none⟩) hk).trans hc), (World.cell?_of_block (a := ⟨g, o + j, none⟩) hk).trans hc⟩
theorem values_any (A : Option Addr) (n c : Nat) (w : World) : Calls Tryz.prog 331 #[.slice A n c] w fun e w' => e = .returned (.func (.func 341) #[] #[.pointer (some ⟨w.heap.size, 0, none⟩)]) ∧ w' = w.alloc (.cells #[.slice A n c] 171) := by
 go_enter Tryz.func331, Tryz.ntmps331
 go_wp2
 go_ret
 exact ⟨rfl, rfl⟩
structure VlS (n₀ : Nat) (W : World) (Bn : Nat) (A : Option Addr) (c : Nat) (xs : List Int) : Prop where
 bx : At W Bn #[.slice A xs.length c] 171
 rd : RdW W A xs
 lt : ∀ a, A = some a → xs.map (Value.int .i64) ≠ [] → a.block < n₀
 ln : xs.length ≤ 1048576
set_option maxRecDepth 100000 in
set_option maxHeartbeats 2000000 in
theorem values_stops (F : Fence) (n : Nat) (h8 : F.fn 341) (hro : F.round = none) (hn : 1 ≤ n) (Bn n₀ : Nat) (A : Option Addr) (c : Nat) (xs : List Int) (w : World) (hS : VlS n₀ w Bn A c xs) :
  SeqStopsK F n Tryz.prog 341 #[.pointer (some ⟨Bn, 0, none⟩)] (fun x => #[.int .i64 x]) (KpB n₀ Bn) (fun ys => ys = xs) (fun _ => True) xs.length w := fun l J Jx W hW _ _ hY h0 => by
 have hB := hS.bx.below hW
 have hR := hS.rd.below hW
 have hlt := hS.lt
 have ln := hS.ln
 clear hS
 refine callsIn_of_wp Tryz.func341 rfl h8 ?_ hro
 simp only [Tryz.ntmps341, List.size_toArray, List.length_cons, List.length_nil, Nat.reduceAdd, Nat.reduceSub, Array.replicate_succ, Array.replicate_zero, List.push_toArray, List.append_toArray, List.nil_append, List.cons_append]
 have c0 := hB.one.1
 obtain ⟨m, hm⟩ : ∃ m, xs.length = m := ⟨_, rfl⟩
 have HM := Lib.hid hm
 rw [hm] at c0 ln
 clear hm
 gi_wp2
 gi_loopw [7] (fun i wr => ∃ k : Nat, k ≤ m ∧ i = .int .i64 k ∧ J (xs.take k) wr ∧ KpB n₀ Bn W wr) (fun i _ => m - (intOf i).toNat)
 case atStart => exact ⟨0, Nat.zero_le _, rfl, h0, KpB.refl _ _ _⟩
 case round =>
  obtain ⟨k, hk, rfl, hJs, hK⟩ := hrel
  by_cases hkl : k < m
  ·have hkx : k < xs.length := by have := HM.out; omega
   obtain ⟨g, o, rfl, hg, c1⟩ := RdW.at (KpB.rd hK hR hlt) k hkx
   have tt := List.take_succ_eq_append_getElem hkx
   obtain ⟨x, hx⟩ : ∃ x, xs[k] = x := ⟨_, rfl⟩
   rw [hx] at c1 tt
   have TT := Lib.hid tt
   obtain ⟨fn, tmps, assign, body, hy, hR2⟩ := hY _ x wr hJs (by simp; omega)
   clear hx hkx tt hR hlt
   gi_wp2
   refine hR2.mono ?_
   rintro e W3 (⟨rfl, hJ3, hk3⟩ | ⟨rfl, hJx3⟩)
   ·gi_wp2
    go_roundw
    case rel => exact ⟨k + 1, by omega, by simp, by rw [TT.out]; exact hJ3, hK.trans hk3⟩
    case measure => simp [intOf]; omega
   ·gi_wp2
    refine bodyPost_ret (results_none rfl _ _ _) rfl ?_
    exact ⟨⟨_, rfl⟩, .inr ⟨_, trivial, hJx3⟩⟩
  ·obtain rfl : k = m := by omega
   rw [List.take_of_length_le (by have := HM.out; omega)] at hJs
   gi_wp2
   go_end0
   exact ⟨⟨_, rfl⟩, .inl ⟨_, rfl, hJs⟩⟩
def CoI (B : Nat) (w : World) (pre : List Int) (W : World) : Prop := (∃ A cap, At W B #[.slice A pre.length cap] 171 ∧ OwnW B W A cap pre) ∧ Below B w W
theorem OwnW.grown {base cap : Nat} {W W' : World} {row : Option Nat} {A : Option Addr} {xs : List Int} (h : OwnW base W A cap xs) (hg : W.grownBy W' row) (hr : ∀ r, row = some r → ∃ o : Obj, W.heap[r]? = some o ∧ o.isCells = false) : OwnW base W' A cap xs := by
 refine World.ownsRow.kept h hg ?_
 rcases h.2 with ⟨e, _⟩ | ⟨g, c, cur, e, _, hgb, _⟩
 ·rw [e]; exact .inl rfl
 ·refine .inr fun e' => ?_
  rw [e] at e'
  obtain ⟨o, ho, hc⟩ := hr g (by simpa [Value.ownBlock] using e'.symm)
  rw [hgb] at ho
  cases ho
  cases hc
set_option maxRecDepth 100000 in
set_option maxHeartbeats 2000000 in
theorem appendSeq_any (Bn : Nat) (A : Option Addr) (c : Nat) (xs : List Int) (w : World) (hS : VlS w.heap.size w Bn A c xs) :
  Calls Tryz.prog 345 #[.slice none 0 0, .func (.func 341) #[] #[.pointer (some ⟨Bn, 0, none⟩)]] w fun e w' => ∃ A' c', e = .returned (.slice A' xs.length c') ∧ OwnW w.heap.size w' A' c' xs ∧ Below w.heap.size w w' := by
 have hb := bn w (.cells #[.slice none 0 0] 171)
 have s0 := At.new w #[.slice none 0 0] 171
 have hBn := hS.bx.lt
 have H := Lib.hid hS
 refine calls_of_wp_marks Tryz.func345 rfl ?_
 simp only [Tryz.ntmps345, List.size_toArray, List.length_cons, List.length_nil, Nat.reduceAdd, Nat.reduceSub, Array.replicate_succ, Array.replicate_zero, List.push_toArray, List.append_toArray, List.nil_append, List.cons_append]
 clear hS
 go_wp2
 obtain ⟨B, hBe⟩ : ∃ B, w.heap.size = B := ⟨_, rfl⟩
 generalize hw : w.alloc _ = W at *
 have hz : W.heap.size = B + 1 := by rw [← hw, ← hBe]; simp
 rw [hBe] at s0 hb hBn
 refine (wpIn_wide (n := 5)).1 ?_
 refine' wpIn_rangeFunc_ownG (F := Fence.wide) (n := 5) rfl (by omega) rfl trivial (enters_of Tryz.func341 (by kernel_rfl) rfl)
  (values_stops Fence.wide 4 trivial rfl (by omega) Bn B A c xs w (hBe ▸ H.out)) (fun h k => h.trans k) (KpB.turn (by omega) (by omega)) (hBe ▸ hb) (fun x => rfl) (CoI B w) (fun _ _ _ => False) ?hI ?hIx ?h0 _ ?assign ?body ?done ?stop
 case hI => exact OwnFrom.and (fun s W1 W2 row ⟨A, cap, h1, h2⟩ hg hr => ⟨A, cap, h1.grown hg fun r e => (hr r e).2, h2.grown hg fun r e => (hr r e).2⟩) (ownFrom_below (n₀ := B) (w₀ := w) (by omega) (by omega))
 case hIx => exact fun c => OwnFrom.pure _
 case h0 => exact ⟨⟨none, 0, s0, OwnW.nil _ _⟩, hb⟩
 case assign =>
  intro l x W K hK
  simp only [Array.zip, List.setIfInBounds_toArray, List.set_cons_zero, List.set_cons_succ]
  gi_wp2
  exact hK
 case body =>
  rintro l pre x W' ⟨⟨A, cap, b1, HW⟩, hB'⟩ hlt
  have c1 := b1.one
  have zB := hB'.size
  have hl1 := b1.lt
  obtain ⟨i, hi, hzr, hsz, hby⟩ := Tryz.infoWs
  have HW1 := HW.below (bn W' (.cells #[.int .i64 x] 2))
  have b2 := b1.alloc (.cells #[.int .i64 x] 2)
  have c2 := (At.new W' #[.int .i64 x] 2).one.1
  have HL := Lib.hid (Nat.le_trans (Nat.le_of_lt hlt) H.out.ln)
  have NE : Hid (some B ≠ (Value.slice A pre.length cap).ownBlock) := fun e => by
   rcases HW.2 with ⟨e', _⟩ | ⟨g, _, _, e', _, hc, _⟩
   ·rw [e'] at e; cases e
   ·rw [e'] at e
    obtain rfl : B = g := by simpa [Value.ownBlock] using e
    rw [show W'.heap[B]? = _ from b1] at hc
    cases hc
  have GE : Hid (∀ k, some k = (Value.slice A pre.length cap).ownBlock → B ≤ k ∧ ∃ o : Obj, W'.heap[k]? = some o ∧ o.isCells = true) := fun k e => by
   rcases HW.2 with ⟨e', _⟩ | ⟨g, _, _, e', h1, hc, _⟩
   ·rw [e'] at e; cases e
   ·rw [e'] at e
    obtain rfl : k = g := by simpa [Value.ownBlock] using e
    exact ⟨h1, _, hc, rfl⟩
  gi_wp2_with (gi_at_builtin; refine wpListIn_append_own _ rfl _ _ _ rfl B _ i _ 1 8 Tryz.underlyingW hi hzr hsz hby rfl (by decide) _ pre.length (pre.map (Value.int .i64)) rfl HW1 ⟨W'.heap.size, 0, none⟩ 1 1 [.int .i64 x] rfl rfl (fun j u hj => by match j, hj with | 0, hj => simp only [List.getElem?_cons_zero, Option.some.injEq] at hj; subst hj; exact c2) (fun u hu => by rw [List.mem_singleton] at hu; subst hu; rfl) (by have := HL.out; simp only [maxLen]; omega) (by have := HL.out; omega) (by simp; omega) ?_; intro v' w2 ho hg2 _; (obtain ⟨g, cp, cur, rfl, r⟩ : ∃ g cp cur, v' = .slice (some ⟨g, 0, none⟩) (pre.length + 1) cp ∧ B ≤ g ∧ w2.heap[g]? = some (.cells cur 2 (0, 0)) := by (rcases ho.2 with ⟨_, hn⟩ | ⟨g, cp, cur, e, h1, h2, _⟩; omega; exact ⟨g, cp, cur, e, h1, h2⟩)); have b3 : At w2 B #[.slice A pre.length cap] 171 := (hg2.block B b2.lt NE.out).trans b2; have c3 := b3.one; have l3 := b3.lt; have ho := Lib.hid ho)
  have hG := hg2.block
  have hB1 : Below B w w2 := (hB'.alloc (by omega) _).grown hg2 (by simp; omega) fun k e => (GE.out k e.symm).1
  have hk := ((KeepsOthers.alloc W' (.cells #[.int .i64 x] 2)).trans (KeepsOthers.of_grownBy hg2 fun j o e ho => by
   obtain ⟨h1, o', h2, h3⟩ := GE.out j e.symm
   rw [Below.heap_alloc _ _ j (Array.getElem?_eq_some_iff.1 h2).1, h2] at ho
   cases ho
   exact h3)).trans (KeepsOthers.setCell w2 ⟨B, 0, none⟩ (.slice (some ⟨g, 0, none⟩) (pre.length + 1) cp))
  refine ⟨hk.from _, fun k hk => ?_, ⟨some ⟨g, 0, none⟩, cp, by rw [List.length_append]; exact b3.set_any 0 _ rfl, ?_⟩, hB1.setCell (p := ⟨B, 0, none⟩) (Nat.le_refl _) _⟩
  ·have hkB : k < B := by rcases hk with h | rfl <;> omega
   rw [Below.heap_setCell w2 _ _ k (by show k ≠ B; omega), hG k (by simp; omega) fun e => by have := (GE.out k e).1; omega, Below.heap_alloc _ _ k (by omega)]
  ·obtain ⟨h1, h2⟩ := ho.out
   unfold OwnW
   rw [List.length_append, List.map_append]
   refine ⟨h1, h2.imp id fun ⟨g', c', cur', e, a1, a2, a3⟩ => ⟨g', c', cur', e, a1, (Below.heap_setCell w2 _ _ g' ?_).trans a2, a3⟩⟩
   intro e2
   rw [show g' = B from e2, show w2.heap[B]? = _ from b3] at a2
   cases a2
 case done =>
  rintro D ys W' hD rfl ⟨⟨A, cap, b1, HW⟩, hB'⟩ hK
  subst hBe
  have c2 := b1.one
  go_wp2
  refine marks_mark hK (results_tmp rfl _ _ _) ⟨A, cap, rfl, HW.grown (grownBy_putObj' W' D (.deferred none)) fun r e => by cases e; exact ⟨_, hK, rfl⟩, hB'.putD hK (by omega)⟩
 case stop => rintro D c pre W' hD _ h; exact h.elim
theorem collect_any (Bn : Nat) (A : Option Addr) (c : Nat) (xs : List Int) (w : World) (hS : VlS w.heap.size w Bn A c xs) :
  Calls Tryz.prog 340 #[.func (.func 341) #[] #[.pointer (some ⟨Bn, 0, none⟩)]] w fun e w' => ∃ A' c', e = .returned (.slice A' xs.length c') ∧ OwnW w.heap.size w' A' c' xs ∧ Below w.heap.size w w' := by
 have H := Lib.hid (appendSeq_any Bn A c xs w hS)
 clear hS
 go_enter Tryz.func340, Tryz.ntmps340
 go_wp2_with fail
 refine H.out.mono ?_
 rintro e w1 ⟨A', c', rfl, h⟩
 have h := Lib.hid h
 go_wp2
 go_ret
 exact ⟨_, _, rfl, h.out⟩
theorem sorted_any (Bn : Nat) (A : Option Addr) (c : Nat) (xs : List Int) (w : World) (hS : VlS w.heap.size w Bn A c xs) :
  Calls Tryz.prog 330 #[.func (.func 341) #[] #[.pointer (some ⟨Bn, 0, none⟩)]] w fun e w' => ∃ A' c' ys, e = .returned (.slice A' xs.length c') ∧ ys.length = xs.length ∧ (∀ y ∈ ys, y ∈ xs) ∧ OwnW w.heap.size w' A' c' ys ∧ Below w.heap.size w w' := by
 have H := Lib.hid (collect_any Bn A c xs w hS)
 have hl := Lib.hid hS.ln
 clear hS
 go_enter Tryz.func330, Tryz.ntmps330
 go_wp2_with fail
 refine H.out.mono ?_
 rintro e w1 ⟨A', c', rfl, ho, hb⟩
 have S := Lib.hid (sortW_any w.heap.size A' c' xs w1 ho hl.out)
 have hb := Lib.hid (And.intro ho hb)
 clear ho
 go_wp2_with fail
 refine S.out.mono ?_
 rintro e w2 ⟨rfl, h2, hF⟩
 have h := Lib.hid (And.intro h2 (hF.below hb.out.2 hb.out.2.size fun k hk => by
  cases A' with
  | none => simp [blk] at hk
  | some a => simp only [blk, List.mem_singleton] at hk; subst hk; exact (hb.out.1.base_le a rfl).1))
 clear h2 hF
 go_wp2
 go_ret
 exact ⟨A', c', _, rfl, List.length_mergeSort _, fun y hy => List.mem_mergeSort.1 hy, h.out⟩
end Go.Proofs.YtlbnlmhcpephbaaGreatDoor

namespace Go.Proofs.YtlbnlmhcpephbaaGreatDoor
open Go.RowKit Go.Shelf
def SplR (n k : Nat) (xs : List Int) (w : World) (e : Ending) (w' : World) : Prop := ∃ g c' ys j X C, e = .returned (.tuple #[.slice (some ⟨g, 0, none⟩) j j, .slice X (n - j) C]) ∧ ((1 ≤ j ∧ j ≤ k + 1) ∧ j ≤ n ∧ (n - j) % 2 = 0 ∧ ys.length = n ∧ ∀ y ∈ ys, y ∈ xs) ∧ OwnW w.heap.size w' (some ⟨g, 0, none⟩) c' ys ∧ (RdW w' X (ys.drop j) ∧ ∃ o, X = some ⟨g, o, none⟩) ∧ Below w.heap.size w w'
set_option maxHeartbeats 1000000 in
theorem split_any (A : Option Addr) (c n k : Nat) (xs : List Int) (w : World) (hR : RdW w A xs) (hx : xs.length = n) (hn : n ≤ 1048576) (h1 : 1 ≤ k) (hk : k ≤ n) :
  Calls Tryz.prog 326 #[.slice A n c, .int .i64 k] w (SplR n k xs w) := by
 have S := Lib.hid (sorted_any w.heap.size A c xs (w.alloc (.cells #[.slice A n c] 171)) ⟨hx ▸ At.new w _ _, hR.below (bn _ _), fun a e k => by
  cases xs with
  | nil => simp at k
  | cons y l => obtain ⟨g, o, e', hg, _⟩ := hR.at 0 (by simp); rw [e] at e'; cases e'; simp; omega, by omega⟩)
 have hz : (w.alloc (.cells #[.slice A n c] 171)).heap.size = w.heap.size + 1 := by simp
 have HB := Lib.hid (bn w (.cells #[.slice A n c] 171))
 rw [hx] at S
 clear hR
 go_enter Tryz.func326, Tryz.ntmps326
 go_wp2_with fail
 refine (values_any A n c w).mono ?_
 rintro e w1 ⟨rfl, rfl⟩
 go_wp2_with fail
 refine S.out.mono ?_
 rintro e w2 ⟨A', c', ys, rfl, hl, hs, ho, hb⟩
 obtain ⟨g, rfl⟩ : ∃ g, A' = some ⟨g, 0, none⟩ := by
  rcases ho.2 with ⟨_, h⟩ | ⟨g, _, _, e, _⟩
  ·omega
  ·simp only [Value.slice.injEq] at e; exact ⟨g, e.1⟩
 have hc : n ≤ c' := by
  rcases ho.2 with ⟨_, h⟩ | ⟨g, cp, _, e, _, _, h1, _⟩
  ·omega
  ·simp only [Value.slice.injEq] at e; omega
 have F : Hid (∀ j X C nq, (1 ≤ j ∧ j ≤ k + 1) → j ≤ n → (n - j) % 2 = 0 → ((∃ o, X = some ⟨g, o, none⟩) ∧ (X = some ⟨g, j, none⟩ ∨ n = j)) → SplR n k xs w (.returned (.tuple #[.slice (some ⟨g, 0, none⟩) j j, .slice X (n - j) C])) (w2.drewN nq)) := fun j X C nq a b d hX => ⟨g, c', ys, j, X, C, rfl, ⟨a, b, d, hl, hs⟩, OwnW.below ⟨ho.1, ho.2.imp id fun ⟨g, c, u, e, h, r⟩ => ⟨g, c, u, e, by omega, r⟩⟩ ((Below.refl _ _).drewN _), ⟨by
  rcases hX.2 with rfl | h
  ·intro i u hi
   rw [List.map_drop, List.getElem?_drop] at hi
   obtain ⟨g', o, e, hg, hc⟩ := ho.rd (j + i) u hi
   cases e
   exact ⟨g, j, rfl, hg, by rw [Nat.zero_add] at hc; exact hc⟩
  ·rw [List.drop_of_length_le (by omega)]; exact Rd.nil _ _, hX.1⟩, (keep1 HB.out hb).drewN _⟩
 clear hl hs ho hb S hz
 have k0 : (0 : Int) ≤ k := by omega
 have k1 : (k : Int) ≤ n := by omega
 have k2 : IntKind.i64.wrap ((n : Int) - k) = ((n - k : Nat) : Int) := by simp only [IntKind.wrap_i64]; omega
 have k3 : max (k : Int) 0 = k := by omega
 have k4 : min (k : Int) n = k := by omega
 have k5 : (n : Int) ≤ c' := by omega
 rcases Nat.mod_two_eq_zero_or_one (n - k) with p | p
 ·have e : (((n : Int) - k) % 2 == 1) = false := by simp; omega
  have P := Lib.hid p
  clear p
  go_upto_region 5 with fail
  go_quiet (fail)
  go_wp2
  all_goals
   go_ret2
   exact F.out k _ _ _ ⟨h1, Nat.le_succ _⟩ hk P.out (by first | exact ⟨⟨_, rfl⟩, .inl rfl⟩ | exact ⟨⟨_, rfl⟩, .inr (by omega)⟩)
 ·have e : (((n : Int) - k) % 2 == 1) = true := by simp; omega
  have l : k + 1 ≤ n := by omega
  have P : Hid ((n - (k + 1)) % 2 = 0) := by show _ = _; omega
  obtain ⟨j, hj⟩ : ∃ j, k + 1 = j := ⟨_, rfl⟩
  have k6 : IntKind.i64.wrap ((k : Int) + 1) = j := by simp only [IntKind.wrap_i64]; omega
  have k7 : (0 : Int) ≤ j := by omega
  have k8 : (j : Int) ≤ n := by omega
  have J1 : Hid ((1 ≤ j ∧ j ≤ k + 1) ∧ j ≤ n) := ⟨by omega, by omega⟩
  rw [hj] at P
  clear p hj
  go_upto_region 5 with fail
  go_quiet (fail)
  go_wp2
  all_goals
   go_ret2
   exact F.out j _ _ _ J1.out.1 J1.out.2 P.out (by first | exact ⟨⟨_, rfl⟩, .inl rfl⟩ | exact ⟨⟨_, rfl⟩, .inr (by omega)⟩)
def TpW (w : World) (b : Nat) (wo us : Int) : Prop := At w b #[.int .u64 wo, .int .i64 us] 216
section
variable {w : World} {b : Nat} {wo us : Int}
theorem cnew_any (wo : Int) (w : World) : Calls Tryz.prog 62 #[.int .u64 wo] w fun e w' => e = .returned (.pointer (some ⟨w.heap.size, 0, none⟩)) ∧ w' = w.alloc (.cells #[.int .u64 wo, .int .i64 0] 216) := by
 go_enter Tryz.func62, Tryz.ntmps62
 go_wp2
 go_ret
 exact ⟨rfl, rfl⟩
theorem cused_any (h : TpW w b wo us) : Calls Tryz.prog 355 #[.pointer (some ⟨b, 0, none⟩)] w fun e w' => e = .returned (.int .i64 us) ∧ w = w' := by
 have f := At.two h
 go_enter Tryz.func355, Tryz.ntmps355
 go_wp2
 go_ret
 exact ⟨rfl, rfl⟩
theorem cskip_any (h : TpW w b wo us) (u : Int) (h0 : 0 ≤ u) : Calls Tryz.prog 119 #[.pointer (some ⟨b, 0, none⟩), .int .i64 u] w fun e w' => e = .returned (.bool true) ∧ w' = w.setCell ⟨b, 1, none⟩ (.int .i64 u) := by
 have f := At.two h
 have l := At.lt h
 go_enter Tryz.func119, Tryz.ntmps119
 go_wp2
 go_ret
 exact ⟨rfl, rfl⟩
theorem cnext_any (h : TpW w b wo us) (h0 : 0 ≤ us) (h1 : us < 9223372036854775807) : Calls Tryz.prog 328 #[.pointer (some ⟨b, 0, none⟩)] w fun e w' => (∃ c : Bool, e = .returned (.bool c)) ∧ TpW w' b wo (us + 1) ∧ Frame [b] w w' := by
 have e : IntKind.i64.wrap (us + 1) = us + 1 := by simp only [IntKind.wrap_i64]; omega
 have f := At.two h
 have l := At.lt h
 have r0 : 0 ≤ us % 64 := by omega
 have F : Hid (∀ n, TpW ((w.drewN n).setCell ⟨b, 1, none⟩ (.int .i64 (us + 1))) b wo (us + 1) ∧ Frame [b] w ((w.drewN n).setCell ⟨b, 1, none⟩ (.int .i64 (us + 1)))) := fun n => ⟨At.set_any (w := w.drewN n) h 1 _ rfl, ((Frame.refl _ _).drewN n).setc (.inl (by simp)) 1 _⟩
 clear h
 go_enter Tryz.func328, Tryz.ntmps328
 go_wp2
 go_quiet (fail)
 go_wp2
 go_ret
 exact ⟨⟨_, rfl⟩, F.out _⟩
end
def hlf (s : Bool) (k : Nat) : Nat := if s then k / 2 else (k + 1) / 2
set_option maxHeartbeats 1000000 in
theorem halve_any (A : Option Addr) (c n : Nat) (xs : List Int) (s : Bool) (w : World) (hR : RdW w A xs) (hx : xs.length = n) (hn : n ≤ 1048576) (h2 : n % 2 = 0) :
  Calls Tryz.prog 327 #[.slice A n c, .bool s] w fun e w' => ∃ A' c' zs, e = .returned (.slice A' (n / 2) c') ∧ zs.length = n / 2 ∧ (∀ z ∈ zs, z ∈ xs) ∧ OwnW w.heap.size w' A' c' zs ∧ Below w.heap.size w w' := by
 have HR := Lib.hid hR
 have HX := Lib.hid hx
 have HN := Lib.hid h2
 have I0 : Hid (∃ zs, zs.length = hlf s 0 ∧ (∀ z ∈ zs, z ∈ xs) ∧ OwnW w.heap.size w none 0 zs ∧ Below w.heap.size w w) := ⟨[], by cases s <;> rfl, by simp, OwnW.nil _ _, Below.refl _ _⟩
 clear hR hx h2
 go_enter Tryz.func327, Tryz.ntmps327
 go_wp2
 go_loopw [5, 10] (fun o i wr => ∃ k : Nat, k ≤ n ∧ i = .int .i64 k ∧ ∃ A' c', o = .slice A' (hlf s k) c' ∧ Hid (∃ zs, zs.length = hlf s k ∧ (∀ z ∈ zs, z ∈ xs) ∧ OwnW w.heap.size wr A' c' zs ∧ Below w.heap.size w wr)) (fun _ i _ => n - (intOf i).toNat)
 case atStart => exact ⟨0, by omega, rfl, none, 0, by cases s <;> rfl, I0⟩
 case round =>
  clear I0
  obtain ⟨k, hk, rfl, A', c', rfl, I⟩ := hrel
  by_cases hlt : k < n
  ·have hkx : k < xs.length := by have := HX.out; omega
   obtain ⟨zs, hl, hm, ho, hb⟩ := I.out
   obtain ⟨g, o, rfl, hg, c1⟩ := RdW.at (HR.out.below hb) k hkx
   have mm := List.getElem_mem hkx
   obtain ⟨x, hx⟩ : ∃ x, xs[k] = x := ⟨_, rfl⟩
   rw [hx] at c1 mm
   have MM := Lib.hid mm
   have HB := Lib.hid (And.intro hm (And.intro ho (And.intro hl hb)))
   clear hx hkx hl hm ho hb mm I
   have e : IntKind.i64.wrap ((k : Int) % 2) = (k : Int) % 2 := by simp only [IntKind.wrap_i64]; omega
   cases hq : (((k : Int) % 2 == 1) == s)
   ·have E : Hid (hlf s k = hlf s (k + 1)) := by show _ = _; unfold hlf; cases s <;> simp at hq ⊢ <;> omega
    have J := Lib.hid (⟨zs, HB.out.2.2.1.trans E.out, HB.out.1, HB.out.2.1, HB.out.2.2.2⟩ : ∃ zs, zs.length = hlf s (k + 1) ∧ (∀ z ∈ zs, z ∈ xs) ∧ OwnW w.heap.size wr A' c' zs ∧ Below w.heap.size w wr)
    clear HB
    go_wp2
    go_roundw
    case rel => exact ⟨k + 1, by omega, by simp, A', c', by rw [E.out], J⟩
    case measure => simp [intOf]; omega
   ·have E : Hid (hlf s k + 1 = hlf s (k + 1)) := by show _ = _; unfold hlf; cases s <;> simp at hq ⊢ <;> omega
    have hl9 : hlf s k ≤ 1048576 := by unfold hlf; split <;> omega
    obtain ⟨A2, c2, w2, hr, ho, hf, _⟩ := app_w (x := x) HB.out.2.1 (by have := HB.out; omega) HB.out.2.2.2.size (Below.refl _ _)
    rw [HB.out.2.2.1] at hr
    have J : Hid (∃ zs, zs.length = hlf s (k + 1) ∧ (∀ z ∈ zs, z ∈ xs) ∧ OwnW w.heap.size w2 A2 c2 zs ∧ Below w.heap.size w w2) := ⟨zs ++ [x], by rw [← E.out, List.length_append, HB.out.2.2.1]; rfl, fun z hz => (List.mem_append.1 hz).elim (HB.out.1 z) fun h => by rw [List.mem_singleton] at h; exact h ▸ MM.out, ho, hf.below HB.out.2.2.2 HB.out.2.2.2.size fun k hk => (own_blk HB.out.2.1 k hk).1⟩
    replace hr := Lib.hid hr
    clear ho hf
    go_wp2_with (at_builtin; refine Lib.wpList_append_run _ rfl _ _ _ _ rfl _ _ rfl rfl _ _ hr.out ?_)
    clear HB
    go_wp2
    go_roundw
    case rel => exact ⟨k + 1, by omega, by simp, A2, c2, by rw [E.out], J⟩
    case measure => simp [intOf]; omega
  ·obtain rfl : k = n := by omega
   obtain ⟨zs, hl, hm, ho, hb⟩ := I.out
   have e : hlf s k = k / 2 := by have := HN.out; unfold hlf; split <;> omega
   have F := Lib.hid (⟨A', c', zs, rfl, hl.trans e, hm, ho, hb⟩ : ∃ A'' c'' zs, Ending.returned (.slice A' (k / 2) c') = .returned (.slice A'' (k / 2) c'') ∧ zs.length = k / 2 ∧ (∀ z ∈ zs, z ∈ xs) ∧ OwnW w.heap.size wr A'' c'' zs ∧ Below w.heap.size w wr)
   rw [e]
   clear hl hm ho hb e
   go_wp2
   go_ret
   exact F.out
end Go.Proofs.YtlbnlmhcpephbaaGreatDoor

namespace Go.Proofs.YtlbnlmhcpephbaaGreatDoor
open Go.RowKit Go.Shelf
structure Ro where
 A : Option Addr
 cap : Nat
 xs : List Int
def Ro.v (r : Ro) : Value := .slice r.A r.xs.length r.cap
def RoAt (W : World) (r : Ro) : Prop := OwnW 0 W r.A r.cap r.xs ∨ (r.cap = r.xs.length ∧ 0 < r.cap ∧ ∃ g, r.A = some ⟨g, 0, none⟩ ∧ g < W.heap.size ∧ RdW W r.A r.xs)
section
variable {w w' : World} {r : Ro} {T : List Nat}
theorem RoAt.frame (h : RoAt w r) (hf : Frame T w w') (hn : ∀ k ∈ blk r.A, k ∉ T) : RoAt w' r := by
 rcases h with h | ⟨a, b, g, e, l, d⟩
 ·exact .inl (h.frame hf hn)
 ·exact .inr ⟨a, b, g, e, Nat.lt_of_lt_of_le l hf.size, hf.rd d fun a e => hn _ (by rw [e]; simp [blk])⟩
theorem RoAt.nil (w : World) : RoAt w ⟨none, 0, []⟩ := .inl (OwnW.nil _ _)
theorem RoAt.rd (h : RoAt w r) : RdW w r.A r.xs := h.elim (·.rd) fun ⟨_, _, _, _, _, d⟩ => d
theorem RoAt.le (h : RoAt w r) : r.xs.length ≤ r.cap := by
 rcases h with h | h
 ·rcases h.2 with ⟨e, hn⟩ | ⟨_, _, _, e, _, _, a, _⟩
  ·omega
  ·simp only [Value.slice.injEq] at e; omega
 ·omega
theorem RoAt.lt (h : RoAt w r) : ∀ k ∈ blk r.A, k < w.heap.size := fun k hk => by
  cases hA : r.A with
  | none => rw [hA] at hk; simp [blk] at hk
  | some a =>
    rw [hA] at hk
    simp only [blk, List.mem_singleton] at hk
    subst hk
    rcases h with h | ⟨_, _, g, e, l, _⟩
    · exact (h.base_le a hA).2
    · rw [hA] at e; cases e; exact l
theorem run_append_ro (h : RoAt w r) (Y : Option Addr) (m c : Nat) (ys : List Int) (hm : ys.length = m) (hY : RdW w Y ys) (hn : Y = none → m = 0) (hl : r.xs.length + m ≤ 1048576) :
  ∃ r' w', (Builtin.append_ #[171, 171] 171 #[r.v, .slice Y m c]).run Tryz.prog w = .ok r'.v w' ∧ r'.xs = r.xs ++ ys ∧ RoAt w' r' ∧ Frame (blk r.A) w w' ∧ ∀ k ∈ blk r'.A, k ∈ blk r.A ∨ w.heap.size ≤ k := by
 obtain ⟨i, hi, hz, hsz, hby⟩ := Tryz.infoWs
 have hs : Src Tryz.prog i.size 171 (.slice Y m c) m (ys.map (Value.int .i64)) w := by
  rw [hsz]
  cases Y with
  | none => obtain rfl := hn rfl; obtain rfl := List.eq_nil_of_length_eq_zero hm; exact Src.ofNil w Tryz.underlyingW c
  | some a => exact Src.ofSlice w Tryz.underlyingW a m c _ (by simp [hm]) (fun j u hj => by obtain ⟨g', o', e, _, hc⟩ := hY j u hj; cases e; rw [Addr.add_lit]; exact hc) fun u hu => by obtain ⟨z, _, rfl⟩ := List.mem_map.1 hu; rfl
 by_cases m0 : m = 0
 ·subst m0
  obtain rfl := List.eq_nil_of_length_eq_zero hm
  exact ⟨r, w, run_append_nothing w _ _ _ _ i Tryz.underlyingW hi _ _ _ h.le _ hs, by simp, h, Frame.refl _ _, fun k hk => .inl hk⟩
 rcases h with h | ⟨a, b, g, e, l, d⟩
 ·obtain ⟨a, rfl⟩ : ∃ a, Y = some a := by cases Y with | none => exact absurd (hn rfl) m0 | some a => exact ⟨a, rfl⟩
  subst hm
  obtain ⟨A', cap', w', hr, ho, hF, hb⟩ := run_appW 0 r.A r.cap r.xs ys w h a c hY (by omega) (Nat.zero_le _)
  exact ⟨⟨A', cap', r.xs ++ ys⟩, w', by rw [Ro.v, hr, Ro.v, List.length_append], rfl, .inl ho, hF, hb⟩
 ·have hg := grownCap_ge w (r.xs.length + m) r.cap 2
  have hc := grownCap_le_maxLen w (r.xs.length + m) r.cap 2 (by simp only [maxLen]; omega)
  have hr := run_append_grow_src (P := Tryz.prog) w 171 171 171 2 i _ Tryz.underlyingW hi hz (some ⟨g, 0, none⟩) r.xs.length r.cap (r.xs.map (Value.int .i64)) (by
   rw [hsz]
   exact run_firstCells_some w.drew 1 _ ⟨g, 0, none⟩ _ _ _ (by simp) fun j u hj => by obtain ⟨g', o', e', _, hc⟩ := d j u hj; rw [e] at e'; cases e'; rw [Addr.add_lit]; exact hc) _ m _ hs (by omega) (by omega) (growslice_fits (by omega) (by rw [hby]; omega))
  refine ⟨⟨some ⟨w.heap.size, 0, none⟩, grownCap w (r.xs.length + m) r.cap 2, r.xs ++ ys⟩, _, by rw [Ro.v, e, hr, Ro.v, List.length_append, hm], rfl, .inl ?_, Frame.of_below ((Below.refl _ _).drew.alloc (Nat.le_refl _) _), fun k hk => .inr (by simp only [blk, List.mem_singleton] at hk; omega)⟩
  refine ⟨by simp, .inr ⟨w.heap.size, _, _, rfl, Nat.zero_le _, heap_alloc_new w.drew _, by simp [hm]; omega, hc, ?_, ?_⟩⟩
  ·have : (Value.int .i64 0).cells.size = 1 := rfl
   simp [size_zeroCells, this]; omega
  ·simp only [Array.toList_append, Nat.mul_one, List.map_append]
   exact List.take_left' (by simp [hm])
theorem opwp_append_ro {o : Oper} {a : Act} {K : Act → World → Prop} {Q : Exit → Act → World → Prop} (s x : Operand)
  (ho : o.op = .call { callee := .builtin .append, args := #[s, x], argTypes := #[171, 171] }) (ht : o.type = 171) (A : Option Addr) (n cap : Nat) (xs : List Int) (hs : a.eval s = .slice A n cap) (hxs : xs.length = n) (h : RoAt w ⟨A, cap, xs⟩)
  (Y : Option Addr) (m c : Nat) (ys : List Int) (hx : a.eval x = .slice Y m c) (hm : ys.length = m) (hY : RdW w Y ys) (hn : Y = none → m = 0) (hl : n + m ≤ 1048576) (d : Nat) (hd : o.dst = some d)
  (k : ∀ A' cap' w', RoAt w' ⟨A', cap', xs ++ ys⟩ → Frame (blk A) w w' → (∀ k ∈ blk A', k ∈ blk A ∨ w.heap.size ≤ k) → K ⟨a.tmps.setIfInBounds d (.slice A' (n + m) cap'), a.defers⟩ w') : Oper.wp Tryz.prog o a w K Q := by
 subst hxs
 have hput : ∀ v, a.put o.dst v = ⟨a.tmps.setIfInBounds d v, a.defers⟩ := fun v => by rw [hd]; rfl
 simp only [← hput] at k
 obtain ⟨⟨A', cap', zs⟩, w', hr, e, h1, h2, h3⟩ := run_append_ro h Y m c ys hm hY hn hl
 dsimp only at e
 subst e
 unfold Ro.v at hr
 dsimp only at hr
 unfold Oper.wp execOp
 simp only [ho, ht, resolve, invoke, builtin, Sem.run_bind, Sem.run_pure, Result.andThen_ok, List.map_toArray, List.map_cons, List.map_nil, hs, hx, hr]
 rw [List.length_append, hm]
 exact k A' cap' w' h1 h2 h3
end
end Go.Proofs.YtlbnlmhcpephbaaGreatDoor

namespace Go.Proofs.YtlbnlmhcpephbaaGreatDoor
open Go.RowKit Go.Shelf
def wS : List Ro → Nat
 | [] => 0
 | r :: l => r.xs.length + 2 * wS l
theorem wS_set : ∀ {l : List Ro} {i : Nat} (h : i < l.length) (r : Ro), wS (l.set i r) + 2 ^ i * l[i].xs.length = wS l + 2 ^ i * r.xs.length
  | x :: l, 0, _, r => by simp [wS]; omega
  | x :: l, i + 1, h, r => by
    have := wS_set (l := l) (i := i) (by simpa using h) r
    simp only [List.set_cons_succ, wS, List.getElem_cons_succ, Nat.pow_succ, Nat.mul_assoc, Nat.mul_comm, Nat.mul_left_comm] at *
    grind
theorem wS_nil : ∀ l : List Ro, wS (l ++ [⟨none, 0, []⟩]) = wS l
 | [] => rfl
 | x :: l => by simp [wS, wS_nil l]
theorem wS_ge : ∀ {l : List Ro} {i : Nat} (h : i < l.length), 2 ^ i * l[i].xs.length ≤ wS l
  | x :: l, 0, _ => by simp [wS]
  | x :: l, i + 1, h => by
    have := wS_ge (l := l) (i := i) (by simpa using h)
    simp only [wS, List.getElem_cons_succ, Nat.pow_succ, Nat.mul_comm, Nat.mul_left_comm] at *
    grind
theorem wS_few {l : List Ro} {i : Nat} (h : i < l.length) (h4 : 4 ≤ l[i].xs.length) (hw : wS l ≤ 8000) : i ≤ 10 := by
 have := wS_ge h
 rcases Nat.lt_or_ge 10 i with k | k
 ·have := Nat.pow_le_pow_right (n := 2) (by decide) k
  have := Nat.mul_le_mul this h4
  omega
 ·exact k
def RsAt (w : World) (R : Option Addr) (cR : Nat) (rows : List Ro) : Prop := w.ownsRow 0 171 1 (.slice R rows.length cR) rows.length (rows.map Ro.v)
structure TwB (w : World) (b tb : Nat) (wd wo us tot lo hi : Int) (R : Option Addr) (cR : Nat) (rows : List Ro) (own : Nat → Nat) : Prop where
 at' : At w b #[.int .i64 wd, .int .u64 wo, .pointer (some ⟨tb, 0, none⟩), .slice R rows.length cR, .int .u64 tot, .int .i64 lo, .int .i64 hi] 178
 tp : TpW w tb wo us
 rr : RsAt w R cR rows
 ro : ∀ i (h : i < rows.length), RoAt w rows[i]
 ob : own b = 0
 ot : own tb = 1
 oR : ∀ k ∈ blk R, own k = 2
 oi : ∀ i (h : i < rows.length), ∀ k ∈ blk rows[i].A, own k = i + 3
def twS (b tb : Nat) (R : Option Addr) (rows : List Ro) : List Nat := b :: tb :: (blk R ++ rows.flatMap fun r => blk r.A)
section
variable {w w' w1 : World} {b tb i cR gR n0 : Nat} {wd wo us tot lo hi : Int} {R : Option Addr} {rows : List Ro} {own : Nat → Nat} {T : List Nat} {r : Ro}
theorem twS_mem {k : Nat} : k ∈ twS b tb R rows ↔ k = b ∨ k = tb ∨ k ∈ blk R ∨ ∃ r ∈ rows, k ∈ blk r.A := by simp [twS]
theorem RsAt.lt (h : RsAt w R cR rows) : ∀ k ∈ blk R, k < w.heap.size := fun k hk => by
 cases R with
 | none => simp [blk] at hk
 | some a => simp only [blk, List.mem_singleton] at hk; subst hk; exact (World.ownsRow.lt h _ rfl).2
theorem RsAt.frame (h : RsAt w R cR rows) (hf : Frame T w w') (hn : ∀ k ∈ blk R, k ∉ T) : RsAt w' R cR rows :=
 ⟨h.1, h.2.imp id fun ⟨g, c, cur, e, a, b, d⟩ => ⟨g, c, cur, e, a, (hf.block g (Array.getElem?_eq_some_iff.1 b).1 (hn g (by simp only [Value.slice.injEq] at e; rw [e.1]; simp [blk]))).trans b, d⟩⟩
theorem RsAt.addr (h : RsAt w R cR rows) (hi : 0 < rows.length) : ∃ g, R = some ⟨g, 0, none⟩ := by
 rcases h.2 with ⟨_, e⟩ | ⟨g, _, _, e, _⟩
 ·omega
 ·simp only [Value.slice.injEq] at e; exact ⟨g, e.1⟩
theorem RsAt.cell (h : RsAt w (some ⟨gR, 0, none⟩) cR rows) (hi : i < rows.length) : w.cell? ⟨gR, i, none⟩ = some rows[i].v := by
 have := World.ownsRow.cells h (g := gR) rfl i _ (by rw [List.getElem?_map, List.getElem?_eq_getElem hi]; rfl)
 rw [Addr.add_lit, Nat.zero_add] at this
 exact this
theorem RsAt.frozen (h : RsAt w (some ⟨gR, 0, none⟩) cR rows) (i : Nat) : w.frozen? ⟨gR, i, none⟩ = false := by
 rcases h.2 with ⟨e, _⟩ | ⟨g, _, _, e, _, hc, _⟩
 ·cases e
 ·simp only [Value.slice.injEq, Option.some.injEq, Addr.mk.injEq] at e
  obtain ⟨⟨rfl, _⟩, _⟩ := e
  simp [World.frozen?, hc]
theorem At.c7 {T : TypeId} {v0 v1 v2 v3 v4 v5 v6 : Value} (h : At w b #[v0, v1, v2, v3, v4, v5, v6] T) : w.cell? ⟨b, 0, none⟩ = some v0 ∧ w.cell? ⟨b, 1, none⟩ = some v1 ∧ w.cell? ⟨b, 2, none⟩ = some v2 ∧ w.cell? ⟨b, 3, none⟩ = some v3 ∧ w.cell? ⟨b, 4, none⟩ = some v4 ∧ w.cell? ⟨b, 5, none⟩ = some v5 ∧ w.cell? ⟨b, 6, none⟩ = some v6 ∧ ∀ i, w.frozen? ⟨b, i, none⟩ = false := ⟨h.cell rfl, h.cell rfl, h.cell rfl, h.cell rfl, h.cell rfl, h.cell rfl, h.cell rfl, h.frozen⟩
theorem TwB.lt (h : TwB w b tb wd wo us tot lo hi R cR rows own) : ∀ k ∈ twS b tb R rows, k < w.heap.size := fun k hk => by
 rcases twS_mem.1 hk with rfl | rfl | hk | ⟨r, hr, hk⟩
 ·exact h.at'.lt
 ·exact At.lt h.tp
 ·exact h.rr.lt k hk
 ·obtain ⟨i, hi, rfl⟩ := List.getElem_of_mem hr
  exact (h.ro i hi).lt k hk
theorem TwB.frame (h : TwB w b tb wd wo us tot lo hi R cR rows own) (hf : Frame T w w') (hn : Apart (twS b tb R rows) T) : TwB w' b tb wd wo us tot lo hi R cR rows own :=
 { h with
  at' := hf.at h.at' (hn b (twS_mem.2 (.inl rfl)))
  tp := hf.at h.tp (hn tb (twS_mem.2 (.inr (.inl rfl))))
  rr := h.rr.frame hf fun k hk => hn k (twS_mem.2 (.inr (.inr (.inl hk))))
  ro := fun i hi => (h.ro i hi).frame hf fun k hk => hn k (twS_mem.2 (.inr (.inr (.inr ⟨_, List.getElem_mem hi, hk⟩)))) }
theorem TwB.below (h : TwB w b tb wd wo us tot lo hi R cR rows own) (hb : Below w.heap.size w w') : TwB w' b tb wd wo us tot lo hi R cR rows own := h.frame (T := []) (Frame.of_below hb) fun _ _ => by simp
theorem TwB.tape {us' : Int} (h : TwB w b tb wd wo us tot lo hi R cR rows own) (hf : Frame [tb] w w') (ht : TpW w' tb wo us') : TwB w' b tb wd wo us' tot lo hi R cR rows own := by
 have ne : ∀ k, own k ≠ 1 → k ∉ [tb] := fun k e hk => by simp at hk; subst hk; exact e h.ot
 exact { h with
  at' := hf.at h.at' (ne b (by have := h.ob; omega))
  tp := ht
  rr := h.rr.frame hf fun k hk => ne k (by have := h.oR k hk; omega)
  ro := fun i hi => (h.ro i hi).frame hf fun k hk => ne k (by have := h.oi i hi k hk; omega) }
theorem TwB.row (h : TwB w b tb wd wo us tot lo hi (some ⟨gR, 0, none⟩) cR rows own) (hi' : i < rows.length) (hf : Frame (blk rows[i].A) w w1) (hr : RoAt w1 r) (hb : ∀ k ∈ blk r.A, k ∈ blk rows[i].A ∨ k ∉ twS b tb (some ⟨gR, 0, none⟩) rows) :
  TwB (w1.setCell ⟨gR, i, none⟩ r.v) b tb wd wo us tot lo hi (some ⟨gR, 0, none⟩) cR (rows.set i r) (fun k => if k ∈ blk r.A then i + 3 else own k) ∧ ∀ k ∈ twS b tb (some ⟨gR, 0, none⟩) (rows.set i r), k ∈ twS b tb (some ⟨gR, 0, none⟩) rows ∨ k ∈ blk r.A := by
 have hR : gR ∈ blk (some ⟨gR, 0, none⟩) := by simp [blk]
 have o0 := h.ob
 have o1 := h.ot
 have o2 := h.oR gR hR
 have oi := h.oi i hi'
 have low : ∀ k ∈ twS b tb (some ⟨gR, 0, none⟩) rows, own k ≠ i + 3 → (if k ∈ blk r.A then i + 3 else own k) = own k := fun k hk e => if_neg fun h => (hb k h).elim (fun a => e (oi k a)) fun a => a hk
 have mb : b ∈ twS b tb (some ⟨gR, 0, none⟩) rows := twS_mem.2 (.inl rfl)
 have mt : tb ∈ twS b tb (some ⟨gR, 0, none⟩) rows := twS_mem.2 (.inr (.inl rfl))
 have mR : gR ∈ twS b tb (some ⟨gR, 0, none⟩) rows := twS_mem.2 (.inr (.inr (.inl hR)))
 have mr : ∀ j (h : j < rows.length), ∀ k ∈ blk rows[j].A, k ∈ twS b tb (some ⟨gR, 0, none⟩) rows := fun j h k hk => twS_mem.2 (.inr (.inr (.inr ⟨_, List.getElem_mem h, hk⟩)))
 have nr : ∀ k, own k ≠ i + 3 → k ∉ blk rows[i].A := fun k e hk => e (oi k hk)
 have fs : Frame [gR] w1 (w1.setCell ⟨gR, i, none⟩ r.v) := Frame.set _ _ _ _ _ (by simp)
 have ne : ∀ k, own k ≠ 2 → k ∉ [gR] := fun k e hk => by simp at hk; subst hk; exact e o2
 refine ⟨{ at' := ?_, tp := ?_, rr := ?_, ro := fun j hj => ?_, ob := (low b mb (by omega)).trans o0, ot := (low tb mt (by omega)).trans o1, oR := fun k hk => ?_, oi := fun j hj k hk => ?_ }, fun k hk => ?_⟩
 ·rw [List.length_set]; exact fs.at (hf.at h.at' (nr b (by omega))) (ne b (by omega))
 ·exact fs.at (hf.at h.tp (nr tb (by omega))) (ne tb (by omega))
 ·unfold RsAt
  rw [List.length_set, List.map_set]
  exact own_setCell (h.rr.frame hf fun k hk => nr k (by have := h.oR k hk; omega)) (by omega) _
 ·rw [List.length_set] at hj
  rw [List.getElem_set]
  split
  ·exact hr.frame fs fun k hk => (hb k hk).elim (fun a => ne k (by have := oi k a; omega)) fun a e => by simp at e; subst e; exact a mR
  ·exact ((h.ro j hj).frame hf fun k hk => nr k (by have := h.oi j hj k hk; omega)).frame fs fun k hk => ne k (by have := h.oi j hj k hk; omega)
 ·simp only [blk, List.mem_singleton] at hk
  subst hk
  exact (low _ mR (by omega)).trans o2
 ·rw [List.length_set] at hj
  rw [List.getElem_set] at hk
  split at hk
  ·rename_i e
   subst e
   exact if_pos hk
  ·have := h.oi j hj k hk
   exact (low k (mr j hj k hk) (by omega)).trans this
 ·rcases twS_mem.1 hk with rfl | rfl | hk | ⟨x, hx, hk'⟩
  ·exact .inl mb
  ·exact .inl mt
  ·exact .inl (twS_mem.2 (.inr (.inr (.inl hk))))
  ·rcases List.mem_or_eq_of_mem_set hx with hx | rfl
   ·exact .inl (twS_mem.2 (.inr (.inr (.inr ⟨x, hx, hk'⟩))))
   ·exact .inr hk'
theorem TwB.grow {n1 cR' : Nat} {R' : Option Addr} (h : TwB w b tb wd wo us tot lo hi R cR rows own) (hf : Frame (blk R) w w1) (hR : RsAt w1 R' cR' (rows ++ [r])) (hr : RoAt w r) (hn : ∀ k ∈ twS b tb R rows, k < n0) (h01 : n0 ≤ n1) (hk1 : ∀ k ∈ blk r.A, n0 ≤ k ∧ k < n1) (hb : ∀ k ∈ blk R', k ∈ blk R ∨ n1 ≤ k) :
  TwB (w1.setCell ⟨b, 3, none⟩ (.slice R' (rows.length + 1) cR')) b tb wd wo us tot lo hi R' cR' (rows ++ [r]) (fun k => if n1 ≤ k then 2 else if n0 ≤ k then rows.length + 3 else own k) ∧ ∀ k ∈ twS b tb R' (rows ++ [r]), k ∈ twS b tb R rows ∨ n0 ≤ k := by
 have o0 := h.ob
 have o1 := h.ot
 have l0 := hn b (twS_mem.2 (.inl rfl))
 have l1 := hn tb (twS_mem.2 (.inr (.inl rfl)))
 have l2 : ∀ k ∈ blk R, k < n0 := fun k hk => hn k (twS_mem.2 (.inr (.inr (.inl hk))))
 have lr : ∀ i (hi : i < rows.length), ∀ k ∈ blk rows[i].A, k < n0 := fun i hi k hk => hn k (twS_mem.2 (.inr (.inr (.inr ⟨_, List.getElem_mem hi, hk⟩))))
 have nR : ∀ k, own k ≠ 2 → k ∉ blk R := fun k e hk => e (h.oR k hk)
 have fs : Frame [b] w1 (w1.setCell ⟨b, 3, none⟩ (.slice R' (rows.length + 1) cR')) := Frame.set _ _ _ _ _ (by simp)
 have low : ∀ k, k < n0 → (if n1 ≤ k then 2 else if n0 ≤ k then rows.length + 3 else own k) = own k := fun k hk => by rw [if_neg (by omega), if_neg (by omega)]
 have ne : ∀ k, own k ≠ 0 → k ∉ [b] := fun k e hk => by simp at hk; subst hk; exact e o0
 refine ⟨{ at' := ?_, tp := ?_, rr := hR.frame fs fun k hk => ?_, ro := fun j hj => ?_, ob := (low b l0).trans o0, ot := (low tb l1).trans o1, oR := fun k hk => ?_, oi := fun j hj k hk => ?_ }, fun k hk => ?_⟩
 ·rw [List.length_append]; exact (hf.at h.at' (nR b (by omega))).set_any 3 _ rfl
 ·exact fs.at (hf.at h.tp (nR tb (by omega))) (ne tb (by omega))
 ·rcases hb k hk with a | a
  ·exact ne k (by have := h.oR k a; omega)
  ·simp; omega
 ·rw [List.length_append] at hj
  rw [List.getElem_append]
  split
  ·rename_i hj'
   exact ((h.ro j hj').frame hf fun k hk => nR k (by have := h.oi j hj' k hk; omega)).frame fs fun k hk => ne k (by have := h.oi j hj' k hk; omega)
  ·rw [List.getElem_singleton]
   exact (hr.frame hf fun k hk hm => by have := (hk1 k hk).1; have := l2 k hm; omega).frame fs fun k hk => by have := (hk1 k hk).1; simp; omega
 ·rcases hb k hk with a | a
  ·rw [low k (l2 k a)]; exact h.oR k a
  ·rw [if_pos a]
 ·rw [List.getElem_append] at hk
  split at hk
  ·rename_i hj'
   rw [low k (lr j hj' k hk)]; exact h.oi j hj' k hk
  ·rw [List.getElem_singleton] at hk
   rw [List.length_append, List.length_singleton] at hj
   have := hk1 k hk
   rw [if_neg (by omega), if_pos (by omega)]
   omega
 ·rcases twS_mem.1 hk with rfl | rfl | hk | ⟨x, hx, hk'⟩
  ·exact .inl (twS_mem.2 (.inl rfl))
  ·exact .inl (twS_mem.2 (.inr (.inl rfl)))
  ·exact (hb k hk).imp (fun a => twS_mem.2 (.inr (.inr (.inl a)))) (by omega)
  ·rcases List.mem_append.1 hx with hx | hx
   ·exact .inl (twS_mem.2 (.inr (.inr (.inr ⟨x, hx, hk'⟩))))
   ·rw [List.mem_singleton] at hx; subst hx; exact .inr (hk1 k hk').1
end
end Go.Proofs.YtlbnlmhcpephbaaGreatDoor
