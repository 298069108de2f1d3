/- Texts of this claim, joined, indents halved: BnLoad, BnLoadV, Suite1, Suite2, Suite3, Suite4, Suite5, Suite6. -/
import Derived.Test.YtlbnlmhcpephbaaGreatDoorProg
import Derived.Test.YtlbnlmhcpephbaaGreatDoorKb10
namespace Go.Proofs.YtlbnlmhcpephbaaGreatDoor
open Go.RowKit
def LdP (b g : Nat) (cs : Array Value) (x y : Int) (W : World) : Prop := At W b cs 208 ∧ At W g #[.int .i64 x, .int .u64 y] 247
theorem LdP.far {b g : Nat} {cs : Array Value} {x y : Int} {W : World} (h : LdP b g cs x y W) : At W b cs 208 ∧ At W g #[.int .i64 x, .int .u64 y] 247 := h
def LdR (b rb lb kk : Nat) (cs : Array Value) (vr vl : Value) (W : World) : Prop := At W b cs 208 ∧ W.cell? ⟨rb, kk, none⟩ = some vr ∧ W.cell? ⟨lb, kk, none⟩ = some vl
theorem LdR.far {b rb lb kk : Nat} {cs : Array Value} {vr vl : Value} {W : World} (h : LdR b rb lb kk cs vr vl W) : At W b cs 208 ∧ W.cell? ⟨rb, kk, none⟩ = some vr ∧ W.cell? ⟨lb, kk, none⟩ = some vl := h
def LdT (sb : Nat) (v0 v1 : Value) (W : World) : Prop := At W sb #[v0, v1] 248
theorem LdT.far {sb : Nat} {v0 v1 : Value} {W : World} (h : LdT sb v0 v1 W) : At W sb #[v0, v1] 248 := h
theorem sload_v (s : Bool) (A : Option Addr) (len cap : Nat) (rs : List (Int × Int)) (most lost : Int) (w : World) (h1 : 1 ≤ most) (h2 : most ≤ 4096) (hl : rs.length = len) (hm : len ≤ 9223372036854775807) (hR : RdP w A rs) (hok : okP rs) (h3 : 0 ≤ lost) (h4 : lost < 18446744073709551616) :
  Calls Tryz.prog 101 #[.int .i64 (sideZ s), .int .i64 most, .slice A len cap, .int .u64 lost] w fun e w' => (∃ (v : Value) (cd : Int), e = .returned (.tuple #[v, .int .i64 cd]) ∧
   Hid ((SLoad s most rs lost ∧ cd = 0 ∧ ∃ d D, v = .iface (sKnd s).T (.pointer (some ⟨d, 0, none⟩)) ∧ Within D w.heap.size w'.heap.size ∧ Sto w' s d D most rs (sumP rs + lost)) ∨ (¬ SLoad s most rs lost ∧ cd = 1 ∧ v = .nilIface))) ∧ Below w.heap.size w w' :=
 (sload_any s A len cap rs most lost w h1 h2 hl hm hR hok h3 h4).mono fun e w' h => by
  rcases h with ⟨⟨hO, d, D, he, hW, hS⟩ | ⟨hO, he⟩, hb⟩
  ·exact ⟨⟨_, 0, he, .inl ⟨hO, rfl, d, D, rfl, hW, hS⟩⟩, hb⟩
  ·exact ⟨⟨_, 1, he, .inr ⟨hO, rfl, rfl⟩⟩, hb⟩
set_option maxRecDepth 100000 in
set_option maxHeartbeats 4000000 in
theorem bload_at (PB : List Nat) (b : Nat) (k : Bool) (pa : Nat) (part : Nat → Int) (rep : Int → Int) (s : Bool) (most : Int) (c0 c1 : Nat) (S0 S1 : List Nat) (ps0 ps1 : List (Int × Int)) (t0 t1 z0 : Int)
    (A0 : Option Addr) (n0 cp0 : Nat) (q0 : List (Int × Int)) (A1 : Option Addr) (n1 cp1 : Nat) (q1 : List (Int × Int)) (lo0 lo1 zero : Int) (w : World)
    (h : BnB PB w b k pa part rep s most c0 c1 S0 S1 ps0 ps1 t0 t1 z0) (k0 : q0.length = n0) (k1 : q1.length = n1) (m0 : n0 ≤ 9223372036854775807) (m1 : n1 ≤ 9223372036854775807) (R0 : RdP w A0 q0) (R1 : RdP w A1 q1) (o0 : okP q0) (o1 : okP q1)
    (hl0 : 0 ≤ lo0 ∧ lo0 < 18446744073709551616) (hl1 : 0 ≤ lo1 ∧ lo1 < 18446744073709551616) (hz : 0 ≤ zero ∧ zero < 18446744073709551616) :
    Calls Tryz.prog 86 #[.pointer (some ⟨b, 0, none⟩), .agg #[.slice A0 n0 cp0, .slice A1 n1 cp1], .agg #[.int .u64 lo0, .int .u64 lo1], .int .u64 zero] w fun e w' => BLoadR b (PB ++ (b :: (S0 ++ S1))) k part rep s most q0 q1 lo0 lo1 zero w e w' := by
  have HBN := Lib.hid h
  have HM := Lib.hid h.s0.m14
  have HROWS : Hid (∀ i < 2, ∃ A n c, (∀ W rb, At W rb #[.slice A0 n0 cp0, .slice A1 n1 cp1] 223 → W.cell? ⟨rb, i, none⟩ = some (.slice A n c)) ∧ (∀ W lb, At W lb #[.int .u64 lo0, .int .u64 lo1] 221 → W.cell? ⟨lb, i, none⟩ = some (.int .u64 (lostOf lo0 lo1 i))) ∧ n ≤ 9223372036854775807 ∧ Hid (RdP w A (rowOf q0 q1 i) ∧ okP (rowOf q0 q1 i) ∧ (rowOf q0 q1 i).length = n ∧ 0 ≤ lostOf lo0 lo1 i ∧ lostOf lo0 lo1 i < 18446744073709551616)) := fun i hi => by
    rcases (by omega : i = 0 ∨ i = 1) with rfl | rfl
    · exact ⟨A0, n0, cp0, fun W rb h => h.cell rfl, fun W lb h => h.cell rfl, m0, R0, o0, k0, hl0⟩
    · exact ⟨A1, n1, cp1, fun W rb h => h.cell rfl, fun W lb h => h.cell rfl, m1, R1, o1, k1, hl1⟩
  have HZ : Hid ((0 ≤ lo0 ∧ lo0 < 18446744073709551616) ∧ (0 ≤ lo1 ∧ lo1 < 18446744073709551616) ∧ (0 ≤ zero ∧ zero < 18446744073709551616)) := ⟨hl0, hl1, hz⟩
  have HLD := Lib.hid fun A len cap rs lost W hl hm hR hok h3 h4 => sload_v s A len cap rs most lost W HM.out.1 HM.out.2 hl hm hR hok h3 h4
  have HRP := Lib.hid fun W (hb : Below w.heap.size w W) => h.prt.rp W hb
  have p1 := (pRep k).1
  have p2 := (pRep k).2
  have u1 := (sTotal s).1
  have u2 := (sTotal s).2
  have HTT := Lib.hid fun c D ps t W => sto_total s c D most t ps W
  have s1 := h.at'
  obtain ⟨pT, hpT⟩ : ∃ z, (pKnd k).T = z := ⟨_, rfl⟩
  obtain ⟨pF, hpF⟩ : ∃ z, (pKnd k).fR = z := ⟨_, rfl⟩
  rw [hpT] at s1 p1
  rw [hpF] at p1 p2 HRP
  obtain ⟨sz, hsz⟩ : ∃ v : Value, .int .i64 (sideZ s) = v := ⟨_, rfl⟩
  rw [hsz] at s1 HLD
  have HSTO : Hid (∃ v3 v4 v5 : Value, At w b #[.iface pT (.pointer (some ⟨pa, 0, none⟩)), sz, .int .i64 most, v3, v4, v5] 208) := ⟨_, _, _, s1⟩
  clear s1
  obtain ⟨v3, v4, v5, s1⟩ := HSTO.out
  have HLTB : Hid (b < w.heap.size) := h.at'.lt
  clear h hpT hpF hsz k0 k1 m0 m1 R0 R1 o0 o1 hl0 hl1 hz HSTO
  go_enter Tryz.func86, Tryz.ntmps86
  have hb0 : Below w.heap.size w (((w.alloc (.cells #[.slice A0 n0 cp0, .slice A1 n1 cp1] 223)).alloc (.cells #[.int .u64 lo0, .int .u64 lo1] 221)).alloc (.cells #[.nilIface, .nilIface] 248)) := (((Below.refl _ _).alloc (Nat.le_refl _) _).alloc (by first | omega | (simp; done) | (simp; omega) | (simp [World.setCell]; omega)) _).alloc (by first | omega | (simp; done) | (simp; omega) | (simp [World.setCell]; omega)) _
  have aR := ((At.new w #[.slice A0 n0 cp0, .slice A1 n1 cp1] 223).alloc (.cells #[.int .u64 lo0, .int .u64 lo1] 221)).alloc (.cells #[.nilIface, .nilIface] 248)
  have aL := (At.new' (w.alloc (.cells #[.slice A0 n0 cp0, .slice A1 n1 cp1] 223)) #[.int .u64 lo0, .int .u64 lo1] 221 (b := w.heap.size + 1) (by simp)).alloc (.cells #[.nilIface, .nilIface] 248)
  have aS := At.new' ((w.alloc (.cells #[.slice A0 n0 cp0, .slice A1 n1 cp1] 223)).alloc (.cells #[.int .u64 lo0, .int .u64 lo1] 221)) #[.nilIface, .nilIface] 248 (b := w.heap.size + 2) (by simp)
  go_wp2
  generalize ((w.alloc (.cells #[.slice A0 n0 cp0, .slice A1 n1 cp1] 223)).alloc (.cells #[.int .u64 lo0, .int .u64 lo1] 221)).alloc (.cells #[.nilIface, .nilIface] 248) = W0 at hb0 aR aL aS ⊢
  have H1 : Hid (LdI w W0 W0 (w.heap.size + 2) s most rep q0 q1 lo0 lo1 0 .nilIface .nilIface) := LdI.start aS hb0 (by omega)
  have HAR := Lib.hid aR
  have HAL := Lib.hid aL
  have hnr : w.heap.size ∉ [w.heap.size + 2] := by simp
  have hnl : w.heap.size + 1 ∉ [w.heap.size + 2] := by simp
  have HNR := Lib.hid hnr
  have HNL := Lib.hid hnl
  have HS1 := Lib.hid s1
  clear aR aL aS hb0 hnr hnl s1
  go_loopw [10, 12, 13, 18, 25] (fun _ _ _ i _ wr => ∃ kk : Nat, kk ≤ 2 ∧ i = .int .i64 kk ∧ ∃ v0 v1, Hid (LdI w W0 wr (w.heap.size + 2) s most rep q0 q1 lo0 lo1 kk v0 v1)) (fun _ _ _ i _ _ => 2 - (intOf i).toNat)
  case atStart => exact ⟨0, by omega, rfl, _, _, H1⟩
  case round =>
    obtain ⟨kk, hkk, rfl, v0, v1, HI⟩ := hrel
    clear H1
    by_cases hlt : kk < 2
    · obtain ⟨A, len, cap, hcr, hcl, hlen, HX⟩ := HROWS.out kk hlt
      have kk0 : (0 : Int) ≤ kk := by omega
      have kk1 : (kk : Int) < 2 := by omega
      have hcr1 := hcr wr _ (HI.out.fr.at HAR.out HNR.out)
      have HCR := Lib.hid hcr
      have HCL := Lib.hid hcl
      clear hcr hcl
      go_wp2
      clear hcr1
      go_loopw [12, 25] (fun _ i wi => ∃ j : Nat, j ≤ len ∧ i = .int .i64 j ∧ Hid (LdI w W0 wi (w.heap.size + 2) s most rep q0 q1 lo0 lo1 kk v0 v1) ∧ Hid (∀ x ∈ (rowOf q0 q1 kk).take j, 0 ≤ x.1 ∧ rep x.1 ≠ 0)) (fun _ i _ => len - (intOf i).toNat)
      case atStart => exact ⟨0, by omega, rfl, HI, fun x hx => by simp at hx⟩
      case round =>
        obtain ⟨j, hj, rfl, HJ, HIN⟩ := hrel
        clear HI
        by_cases hjt : j < len
        · obtain ⟨g, o, rfl, hg, c1, c2⟩ := (HX.out.1.below HJ.out.bl).at j (by have := HX.out.2.2.1; omega)
          have HB := Lib.hid (HX.out.2.1.at j (by have := HX.out.2.2.1; omega))
          have HJL : Hid (j < (rowOf q0 q1 kk).length) := by have := HX.out.2.2.1; show _ < _; omega
          have HBAD : Hid (((rowOf q0 q1 kk)[j]'HJL.out).1 < 0 ∨ rep ((rowOf q0 q1 kk)[j]'HJL.out).1 = 0 → ¬ BLoad rep s most q0 q1 lo0 lo1 zero) := fun h k => RepOk.bad HJL.out h (k.row kk)
          have HST := Lib.hid fun h1 h2 => rep_step HJL.out HIN.out h1 h2
          obtain ⟨⟨x, y⟩, hx⟩ : ∃ x, (rowOf q0 q1 kk)[j]'HJL.out = x := ⟨_, rfl⟩
          rw [hx] at c1 c2 HB HBAD HST
          dsimp only at c1 c2 HB HBAD HST
          clear hx
          have hba : Below wr.heap.size wr (wr.alloc (.cells #[.int .i64 x, .int .u64 y] 247)).drew := ((Below.refl _ _).alloc (Nat.le_refl _) _).drew
          have aP := (At.new wr #[.int .i64 x, .int .u64 y] 247).drew
          have s4 := (HS1.out.below HJ.out.bl).below hba
          go_wp2
          obtain ⟨W4, hW4⟩ : ∃ W, (wr.alloc (.cells #[.int .i64 x, .int .u64 y] 247)).drew = W := ⟨_, rfl⟩
          obtain ⟨g2, hg2⟩ : ∃ g2, wr.heap.size = g2 := ⟨_, rfl⟩
          rw [hW4] at hba aP s4
          have H4 := Lib.hid (HJ.out.below hba)
          rw [hg2] at aP
          simp only [hg2]
          have hL4 : LdP b g2 #[.iface pT (.pointer (some ⟨pa, 0, none⟩)), sz, .int .i64 most, v3, v4, v5] x y W4 := ⟨s4, aP⟩
          have HL4 := Lib.hid hL4
          haveI hne : Nonempty (Held (LdP b g2 #[.iface pT (.pointer (some ⟨pa, 0, none⟩)), sz, .int .i64 most, v3, v4, v5] x y)) := ⟨⟨W4, hL4⟩⟩
          have hfar1 := fun v : Held (LdP b g2 #[.iface pT (.pointer (some ⟨pa, 0, none⟩)), sz, .int .i64 most, v3, v4, v5] x y) => v.held.far.1.six
          have hfar2 := fun v : Held (LdP b g2 #[.iface pT (.pointer (some ⟨pa, 0, none⟩)), sz, .int .i64 most, v3, v4, v5] x y) => v.held.far.2.two
          refine wp_region_noPanic ?_
          refine wp_region_held_drew (S := HeldS (LdP b g2 #[.iface pT (.pointer (some ⟨pa, 0, none⟩)), sz, .int .i64 most, v3, v4, v5] x y)) (by kernel_rfl) (by rw [hW4]; exact HeldS.mk' HL4.out) (fun hHeld => ?_)
          rw [hW4] at hHeld ⊢
          clear hW4 hg2 hba aP s4 hL4 c1 c2 hg HJ HIN HX
          by_cases hx0 : x < 0
          · have HBD := Lib.hid (HBAD.out (.inl hx0))
            have hd : decide (x < 0) = true := decide_eq_true hx0
            clear hx0 HBAD HST HB
            refine wpAnyH_run0 [true, true, true, true, true, true, true, true, true, true] 3 (by kernel_rfl) (by kernel_rfl) (fun _ _ _ _ h => h) (by kernel_rfl) hHeld ?_
            simp only [runOps_true, runOps_false, runOps_nil]
            repeat (first | go_big_quiet_skip | (go_big_quiet_want; go_big_quiet_op; go_big_quiet_on))
            refine wpQuiet_nil ?_
            refine wpAnyH_ready (rs := [10]) (by kernel_rfl) (by simp) ?_
            refine AllReadyH.cons rfl (fun K hK => ?_) AllReadyH.nil
            go_simp
            refine hK.out _ _ ?_ (fun hHeld => ?_)
            clear hK K
            · exact HeldS.mk' HL4.out
            refine wpAnyH_run0 [false, false, false, false, false, false, false, false, false, false, false, true, true] 0 (by kernel_rfl) (by kernel_rfl) (fun _ _ _ _ h => h) (by kernel_rfl) hHeld ?_
            simp only [runOps_true, runOps_false, runOps_nil]
            repeat (first | go_big_quiet_skip | (go_big_quiet_want; go_big_quiet_op; go_big_quiet_on))
            refine wpQuiet_nil ?_
            refine wpAnyH_done (by kernel_rfl) ?_ _
            refine NoPanic.normal ?_
            clear hfar1 hfar2 hHeld hd
            go_wp2
            go_ret
            exact BLoadR.bad HBD.out H4.out.bl
          · have hd : decide (x < 0) = false := decide_eq_false hx0
            have HX0 : Hid (0 ≤ x) := by show _ ≤ _; omega
            clear hx0
            refine wpAnyH_run0 [true, true, true, true, true, true, true, true, true, true] 3 (by kernel_rfl) (by kernel_rfl) (fun _ _ _ _ h => h) (by kernel_rfl) hHeld ?_
            simp only [runOps_true, runOps_false, runOps_nil]
            repeat (first | go_big_quiet_skip | (go_big_quiet_want; go_big_quiet_op; go_big_quiet_on))
            refine wpQuiet_nil ?_
            refine wpAnyH_ready (rs := [10]) (by kernel_rfl) (by simp) ?_
            refine AllReadyH.cons rfl (fun K hK => ?_) (AllReadyH.nil)
            go_simp
            go_wp2_with fail
            refine (HRP.out W4 H4.out.bl x HB.out.1.1 HB.out.1.2).mono ?_
            rintro e w5 ⟨rfl, hb⟩
            dsimp only
            refine hK.out _ _ (HeldS.mk' ⟨HL4.out.1.below hb, HL4.out.2.below hb⟩) (fun hHeld => ?_)
            clear hK K
            have H5 := Lib.hid (H4.out.below hb)
            clear hb H4 HL4
            obtain ⟨r, hr⟩ : ∃ r, rep x = r := ⟨_, rfl⟩
            rw [hr] at HBAD HST ⊢
            clear hr
            by_cases hr0 : r = 0
            · have HBD := Lib.hid (HBAD.out (.inr hr0))
              have hd2 : (r == 0) = true := beq_iff_eq.2 hr0
              clear hr0 HBAD HST HB
              refine wpAnyH_run0 [false, false, false, false, false, false, false, false, false, false, false, true, true] 0 (by kernel_rfl) (by kernel_rfl) (fun _ _ _ _ h => h) (by kernel_rfl) hHeld ?_
              simp only [runOps_true, runOps_false, runOps_nil]
              repeat (first | go_big_quiet_skip | (go_big_quiet_want; go_big_quiet_op; go_big_quiet_on))
              refine wpQuiet_nil ?_
              refine wpAnyH_done (by kernel_rfl) ?_ _
              refine NoPanic.normal ?_
              clear hfar1 hfar2 hHeld hd
              go_wp2
              go_ret
              exact BLoadR.bad HBD.out H5.out.bl
            · have HST2 := Lib.hid (HST.out HX0.out hr0)
              have hd2 : (r == 0) = false := beq_eq_false_iff_ne.2 hr0
              clear hr0 HBAD HST HB
              refine wpAnyH_run0 [false, false, false, false, false, false, false, false, false, false, false, true, true] 0 (by kernel_rfl) (by kernel_rfl) (fun _ _ _ _ h => h) (by kernel_rfl) hHeld ?_
              simp only [runOps_true, runOps_false, runOps_nil]
              repeat (first | go_big_quiet_skip | (go_big_quiet_want; go_big_quiet_op; go_big_quiet_on))
              refine wpQuiet_nil ?_
              refine wpAnyH_done (by kernel_rfl) ?_ _
              refine NoPanic.normal ?_
              clear hfar1 hfar2 hHeld hd
              go_wp2
              go_roundw
              case rel => exact ⟨j + 1, by omega, by simp, H5, HST2.out⟩
              case measure => simp [intOf]; omega
        · obtain rfl : j = len := by omega
          have HOKR : Hid (RepOk rep (rowOf q0 q1 kk)) := by
            have h := HIN.out
            rwa [List.take_of_length_le (by have := HX.out.2.2.1; omega)] at h
          have H4 : Hid (LdI w W0 wr.drew (w.heap.size + 2) s most rep q0 q1 lo0 lo1 kk v0 v1) := HJ.out.below (Below.refl _ _).drew
          clear HIN HJ
          go_wp2
          obtain ⟨W4, hW4⟩ : ∃ W, wr.drew = W := ⟨_, rfl⟩
          rw [hW4] at H4
          have hL4 : LdR b w.heap.size (w.heap.size + 1) kk #[.iface pT (.pointer (some ⟨pa, 0, none⟩)), sz, .int .i64 most, v3, v4, v5] (.slice A j cap) (.int .u64 (lostOf lo0 lo1 kk)) W4 :=
            ⟨HS1.out.below H4.out.bl, HCR.out W4 _ (H4.out.fr.at HAR.out HNR.out), HCL.out W4 _ (H4.out.fr.at HAL.out HNL.out)⟩
          have HLDK := Lib.hid (HLD.out A j cap (rowOf q0 q1 kk) (lostOf lo0 lo1 kk) W4 HX.out.2.2.1 hlen (HX.out.1.below H4.out.bl) HX.out.2.1 HX.out.2.2.2.1 HX.out.2.2.2.2)
          have HL5 : Hid (∀ W, Below W4.heap.size W4 W → LdR b w.heap.size (w.heap.size + 1) kk #[.iface pT (.pointer (some ⟨pa, 0, none⟩)), sz, .int .i64 most, v3, v4, v5] (.slice A j cap) (.int .u64 (lostOf lo0 lo1 kk)) W) := fun W hb =>
            ⟨HS1.out.below (H4.out.below hb).bl, HCR.out W _ ((H4.out.below hb).fr.at HAR.out HNR.out), HCL.out W _ ((H4.out.below hb).fr.at HAL.out HNL.out)⟩
          have HL6 : Hid (∀ W v, Below W4.heap.size W4 W → LdR b w.heap.size (w.heap.size + 1) kk #[.iface pT (.pointer (some ⟨pa, 0, none⟩)), sz, .int .i64 most, v3, v4, v5] (.slice A j cap) (.int .u64 (lostOf lo0 lo1 kk)) (W.setCell ⟨w.heap.size + 2, kk, none⟩ v)) := fun W v hb =>
            ⟨(HS1.out.below (H4.out.below hb).bl).set_other (p := ⟨w.heap.size + 2, kk, none⟩) (by show b ≠ w.heap.size + 2; have := HLTB.out; omega) v,
              HCR.out _ _ (((H4.out.below hb).fr.trans (Frame.set _ W _ kk v (by simp))).at HAR.out HNR.out), HCL.out _ _ (((H4.out.below hb).fr.trans (Frame.set _ W _ kk v (by simp))).at HAL.out HNL.out)⟩
          clear HX
          obtain ⟨lk, hlk⟩ : ∃ lk, lostOf lo0 lo1 kk = lk := ⟨_, rfl⟩
          have HLK := Lib.hid hlk
          rw [hlk] at hL4 HLDK HL5 HL6
          clear hlk
          haveI hne : Nonempty (Held (LdR b w.heap.size (w.heap.size + 1) kk #[.iface pT (.pointer (some ⟨pa, 0, none⟩)), sz, .int .i64 most, v3, v4, v5] (.slice A j cap) (.int .u64 lk))) := ⟨⟨W4, hL4⟩⟩
          have hfar1 := fun v : Held (LdR b w.heap.size (w.heap.size + 1) kk #[.iface pT (.pointer (some ⟨pa, 0, none⟩)), sz, .int .i64 most, v3, v4, v5] (.slice A j cap) (.int .u64 lk)) => v.held.far.1.six
          have hfar2 := fun v : Held (LdR b w.heap.size (w.heap.size + 1) kk #[.iface pT (.pointer (some ⟨pa, 0, none⟩)), sz, .int .i64 most, v3, v4, v5] (.slice A j cap) (.int .u64 lk)) => v.held.far.2.1
          have hfar3 := fun v : Held (LdR b w.heap.size (w.heap.size + 1) kk #[.iface pT (.pointer (some ⟨pa, 0, none⟩)), sz, .int .i64 most, v3, v4, v5] (.slice A j cap) (.int .u64 lk)) => v.held.far.2.2
          refine wp_region_noPanic ?_
          refine wp_region_held_drew (S := HeldS (LdR b w.heap.size (w.heap.size + 1) kk #[.iface pT (.pointer (some ⟨pa, 0, none⟩)), sz, .int .i64 most, v3, v4, v5] (.slice A j cap) (.int .u64 lk))) (by kernel_rfl) (by rw [hW4]; exact HeldS.mk' hL4) (fun hHeld => ?_)
          rw [hW4] at hHeld ⊢
          clear hW4 hL4
          refine wpAnyH_run0 [true, true, true, true, true, true, true, true, true, true, true, true, true, true, true] 7 (by kernel_rfl) (by kernel_rfl) (fun _ _ _ _ h => h) (by kernel_rfl) hHeld ?_
          simp only [runOps_true, runOps_false, runOps_nil]
          repeat (first | go_big_quiet_skip | (go_big_quiet_want; go_big_quiet_op; go_big_quiet_on))
          refine wpQuiet_nil ?_
          refine wpAnyH_ready (rs := [15]) (by kernel_rfl) (by simp) ?_
          refine AllReadyH.cons rfl (fun K hK => ?_) AllReadyH.nil
          go_simp
          go_wp2_with (go_at_call 101; refine HLDK.out.mono ?_; rintro e w5 ⟨⟨vv, cd, rfl, HSL⟩, hb⟩)
          refine hK.out _ _ ?_ (fun hHeld => ?_)
          clear hK K
          · exact HeldS.mk' (HL5.out _ hb)
          have H5 := Lib.hid (H4.out.below hb)
          have HB5 := Lib.hid hb
          have l5 := H5.out.as'.lt
          obtain ⟨pk, hpk⟩ : ∃ pk, w5.cell? ⟨w.heap.size + 2, kk, none⟩ = some pk := by
            rcases (by omega : kk = 0 ∨ kk = 1) with rfl | rfl
            · exact ⟨_, H5.out.as'.cell (i := 0) rfl⟩
            · exact ⟨_, H5.out.as'.cell (i := 1) rfl⟩
          have fpk := H5.out.as'.frozen kk
          clear hb HLDK
          rcases HSL.out with ⟨hOK, rfl, d, D, rfl, hW, hS⟩ | ⟨hNO, rfl, rfl⟩
          · rw [← HLK.out] at hOK hS
            obtain ⟨x0, x1, hI6⟩ := H4.out.more hlt HB5.out hW hS HOKR.out hOK
            have H6 := Lib.hid hI6
            clear HSL hOK hW hS hI6 H4 H5
            refine wpAnyH_run0 [false, false, false, false, false, false, false, false, false, false, false, false, false, false, false, false, true, true, true, true] 2 (by kernel_rfl) (by kernel_rfl) (fun _ _ _ _ h => h) (by kernel_rfl) hHeld ?_
            simp only [runOps_true, runOps_false, runOps_nil]
            repeat (first | go_big_quiet_skip | (go_big_quiet_want; go_big_quiet_op; go_big_quiet_on))
            refine wpQuiet_nil ?_
            refine wpAnyH_ready (rs := [20]) (by kernel_rfl) (by simp) ?_
            refine AllReadyH.cons rfl (fun K hK => ?_) (AllReadyH.nil)
            go_simp
            go_wp2
            refine hK.out _ _ (HeldS.mk' (HL6.out _ _ HB5.out)) (fun hHeld => ?_)
            clear hK K
            refine wpAnyH_run0 [false, false, false, false, false, false, false, false, false, false, false, false, false, false, false, false, false, false, false, false, false, true] 0 (by kernel_rfl) (by kernel_rfl) (fun _ _ _ _ h => h) (by kernel_rfl) hHeld ?_
            simp only [runOps_true, runOps_false, runOps_nil]
            repeat (first | go_big_quiet_skip | (go_big_quiet_want; go_big_quiet_op; go_big_quiet_on))
            refine wpQuiet_nil ?_
            refine wpAnyH_done (by kernel_rfl) ?_ _
            refine NoPanic.normal ?_
            clear hfar1 hfar2 hfar3 hHeld hpk fpk l5 HB5
            go_wp2
            go_roundw
            case rel => exact ⟨kk + 1, by omega, by simp, x0, x1, H6⟩
            case measure => simp [intOf]; omega
          · rw [← HLK.out] at hNO
            have HBD : Hid (¬ BLoad rep s most q0 q1 lo0 lo1 zero) := fun k => hNO (k.sl kk)
            have HB6 : Hid (Below w.heap.size w (w5.setCell ⟨w.heap.size + 2, kk, none⟩ .nilIface)) := H5.out.bl.setCell (p := ⟨w.heap.size + 2, kk, none⟩) (by show w.heap.size ≤ w.heap.size + 2; omega) _
            clear HSL hNO H4 H5
            refine wpAnyH_run0 [false, false, false, false, false, false, false, false, false, false, false, false, false, false, false, false, true, true, true, true] 2 (by kernel_rfl) (by kernel_rfl) (fun _ _ _ _ h => h) (by kernel_rfl) hHeld ?_
            simp only [runOps_true, runOps_false, runOps_nil]
            repeat (first | go_big_quiet_skip | (go_big_quiet_want; go_big_quiet_op; go_big_quiet_on))
            refine wpQuiet_nil ?_
            refine wpAnyH_ready (rs := [20]) (by kernel_rfl) (by simp) ?_
            refine AllReadyH.cons rfl (fun K hK => ?_) (AllReadyH.nil)
            go_simp
            go_wp2
            refine hK.out _ _ (HeldS.mk' (HL6.out _ _ HB5.out)) (fun hHeld => ?_)
            clear hK K
            refine wpAnyH_run0 [false, false, false, false, false, false, false, false, false, false, false, false, false, false, false, false, false, false, false, false, false, true] 0 (by kernel_rfl) (by kernel_rfl) (fun _ _ _ _ h => h) (by kernel_rfl) hHeld ?_
            simp only [runOps_true, runOps_false, runOps_nil]
            repeat (first | go_big_quiet_skip | (go_big_quiet_want; go_big_quiet_op; go_big_quiet_on))
            refine wpQuiet_nil ?_
            refine wpAnyH_done (by kernel_rfl) ?_ _
            refine NoPanic.normal ?_
            clear hfar1 hfar2 hfar3 hHeld hpk fpk l5 HB5
            go_wp2
            go_ret
            exact BLoadR.bad HBD.out HB6.out
    · obtain rfl : kk = 2 := by omega
      obtain ⟨sT, hsT⟩ : ∃ z, (sKnd s).T = z := ⟨_, rfl⟩
      obtain ⟨sF, hsF⟩ : ∃ z, (sKnd s).fT = z := ⟨_, rfl⟩
      have HI1 : Hid (LdI w W0 wr.drew (w.heap.size + 2) s most rep q0 q1 lo0 lo1 2 v0 v1) := HI.out.below (Below.refl _ _).drew
      rw [hsT] at u1
      rw [hsF] at u1 u2 HTT
      have HSTT := HI1.out.st
      rcases HSTT with h0 | ⟨h0, _⟩ | ⟨_, d0, D0, d1, D1, ⟨e0, e1⟩, ⟨g0, g1⟩, hap, hS0, hS1⟩
      · omega
      · omega
      have HE : Hid (v0 = .iface (sKnd s).T (.pointer (some ⟨d0, 0, none⟩)) ∧ v1 = .iface (sKnd s).T (.pointer (some ⟨d1, 0, none⟩))) := ⟨e0, e1⟩
      rw [hsT] at e0 e1
      subst e0 e1
      have HSD := Lib.hid (And.intro (And.intro g0 g1) (And.intro hap (And.intro hS0 hS1)))
      obtain ⟨T0, hT0⟩ : ∃ t, sumP q0 + lo0 = t := ⟨_, rfl⟩
      obtain ⟨T1, hT1⟩ : ∃ t, sumP q1 + lo1 = t := ⟨_, rfl⟩
      have HT : Hid ((0 ≤ T0 ∧ T0 ≤ 9223372036854775807) ∧ (0 ≤ T1 ∧ T1 ≤ 9223372036854775807)) := by
        have a0 := hS0.sums
        have a1 := hS1.sums
        rw [hT0] at a0
        rw [hT1] at a1
        exact ⟨⟨by omega, a0.2.2⟩, by omega, a1.2.2⟩
      have HT0 := Lib.hid hT0
      have HT1 := Lib.hid hT1
      have HSZ := Lib.hid hsT
      clear g0 g1 hap hS0 hS1 hT0 hT1 hsT hsF hlt hkk HI
      go_wp2
      obtain ⟨W4, hW4⟩ : ∃ W, wr.drew = W := ⟨_, rfl⟩
      rw [hW4] at HI1 HSD
      have s4 : LdT (w.heap.size + 2) (.iface sT (.pointer (some ⟨d0, 0, none⟩))) (.iface sT (.pointer (some ⟨d1, 0, none⟩))) W4 := HI1.out.as'
      haveI hne : Nonempty (Held (LdT (w.heap.size + 2) (.iface sT (.pointer (some ⟨d0, 0, none⟩))) (.iface sT (.pointer (some ⟨d1, 0, none⟩))))) := ⟨⟨W4, s4⟩⟩
      have hfar := fun v : Held (LdT (w.heap.size + 2) (.iface sT (.pointer (some ⟨d0, 0, none⟩))) (.iface sT (.pointer (some ⟨d1, 0, none⟩)))) => v.held.far.two
      refine wp_region_noPanic ?_
      refine wp_region_held_drew (S := HeldS (LdT (w.heap.size + 2) (.iface sT (.pointer (some ⟨d0, 0, none⟩))) (.iface sT (.pointer (some ⟨d1, 0, none⟩))))) (by kernel_rfl) (by rw [hW4]; exact HeldS.mk' s4) (fun hHeld => ?_)
      rw [hW4] at hHeld ⊢
      clear hW4
      refine wpAnyH_run0 [true, true, false, true, true, false, true] 9 (by kernel_rfl) (by kernel_rfl) (fun _ _ _ _ h => h) (by kernel_rfl) hHeld ?_
      simp only [runOps_true, runOps_false, runOps_nil]
      repeat (first | go_big_quiet_skip | (go_big_quiet_want; go_big_quiet_op; go_big_quiet_on))
      refine wpQuiet_nil ?_
      refine wpAnyH_ready (rs := [2]) (by kernel_rfl) (by simp) ?_
      refine AllReadyH.cons rfl (fun K hK => ?_) (AllReadyH.nil)
      go_simp
      go_wp2_with fail
      refine (HTT.out d0 D0 q0 _ W4 HSD.out.2.2.1).mono ?_
      rintro e w5 ⟨rfl, hb⟩
      rw [HT0.out]
      dsimp only
      refine hK.out _ _ (HeldS.mk' (At.below s4 hb)) (fun hHeld => ?_)
      clear hK K
      have s5 : LdT (w.heap.size + 2) (.iface sT (.pointer (some ⟨d0, 0, none⟩))) (.iface sT (.pointer (some ⟨d1, 0, none⟩))) w5 := At.below s4 hb
      have HI5 := Lib.hid (HI1.out.below hb)
      have HSD5 := Lib.hid (And.intro (HSD.out.2.2.1.below hb) (HSD.out.2.2.2.below hb))
      clear hb s4 HI1
      refine wpAnyH_ready (rs := [5]) (by kernel_rfl) (by simp) ?_
      refine AllReadyH.cons rfl (fun K hK => ?_) (AllReadyH.nil)
      go_simp
      go_wp2_with fail
      refine (HTT.out d1 D1 q1 _ w5 HSD5.out.2).mono ?_
      rintro e w6 ⟨rfl, hb⟩
      rw [HT1.out]
      dsimp only
      refine hK.out _ _ (HeldS.mk' (At.below s5 hb)) (fun hHeld => ?_)
      clear hK K
      have s6 : At w6 (w.heap.size + 2) #[.iface sT (.pointer (some ⟨d0, 0, none⟩)), .iface sT (.pointer (some ⟨d1, 0, none⟩))] 248 := At.below s5 hb
      have HI6 := Lib.hid (HI5.out.below hb)
      have HSD6 := Lib.hid (And.intro (HSD5.out.1.below hb) (HSD5.out.2.below hb))
      clear hb s5 HI5 HSD5
      have hba : Below w6.heap.size w6 (w6.alloc (.cells #[.int .u64 T0, .int .u64 T1, .int .u64 zero] 23)) := (Below.refl _ _).alloc (Nat.le_refl _) _
      have a7 := At.new w6 #[.int .u64 T0, .int .u64 T1, .int .u64 zero] 23
      have s7 := s6.below hba
      have HI7 := Lib.hid (HI6.out.below hba)
      have HSD7 := Lib.hid (And.intro (HSD6.out.1.below hba) (HSD6.out.2.below hba))
      refine wpAnyH_ready (rs := [7]) (by kernel_rfl) (by simp) ?_
      refine AllReadyH.cons rfl (fun K hK => ?_) (AllReadyH.nil)
      go_simp
      go_wp2
      refine hK.out _ _ (HeldS.mk' s7) (fun hHeld => ?_)
      clear hK K hba
      obtain ⟨g7, hg7⟩ : ∃ g, w6.heap.size = g := ⟨_, rfl⟩
      obtain ⟨W7, hW7⟩ : ∃ W, w6.alloc (.cells #[.int .u64 T0, .int .u64 T1, .int .u64 zero] 23) = W := ⟨_, rfl⟩
      rw [hW7] at a7 s7 HI7 HSD7 hHeld
      rw [hg7] at a7
      simp only [hW7, hg7]
      have c70 : W7.cell? ⟨g7, 0, none⟩ = some (.int .u64 T0) := a7.cell rfl
      have c71 : W7.cell? ⟨g7, 1, none⟩ = some (.int .u64 T1) := a7.cell rfl
      have c72 : W7.cell? ⟨g7, 2, none⟩ = some (.int .u64 zero) := a7.cell rfl
      have HP3 := Lib.hid (plus3_any g7 T0 T1 zero W7 ⟨HT.out.1.1, by have := HT.out.1.2; omega⟩ ⟨HT.out.2.1, by have := HT.out.2.2; omega⟩ HZ.out.2.2 c70 c71 c72)
      clear hW7 hg7 a7 c70 c71 c72 s6 HI6 HSD6
      refine wpAnyH_ready (rs := [8]) (by kernel_rfl) (by simp) ?_
      refine AllReadyH.cons rfl (fun K hK => ?_) AllReadyH.nil
      go_simp
      go_wp2_with (go_at_call 102; refine HP3.out.mono ?_; rintro e w8 ⟨rfl, rfl⟩)
      refine hK.out _ _ ?_ (fun hHeld => ?_)
      clear hK K
      · exact HeldS.mk' s7
      clear HP3
      refine wpAnyH_run0 [false, false, false, false, false, false, false, false, false, true, true, true, true, true] 0 (by kernel_rfl) (by kernel_rfl) (fun _ _ _ _ h => h) (by kernel_rfl) hHeld ?_
      simp only [runOps_true, runOps_false, runOps_nil]
      repeat (first | go_big_quiet_skip | (go_big_quiet_want; go_big_quiet_op; go_big_quiet_on))
      refine wpQuiet_nil ?_
      refine wpAnyH_done (by kernel_rfl) ?_ _
      refine NoPanic.normal ?_
      clear hHeld
      obtain ⟨pq, hpq⟩ : ∃ p, plus3Q T0 T1 zero = p := ⟨_, rfl⟩
      rw [hpq]
      clear hpq
      by_cases hs : T0 + T1 + zero ≤ 9223372036854775807
      · rw [decide_eq_true hs]
        have hokk := HI7.out.ok
        have HG : Hid (BLoad rep s most q0 q1 lo0 lo1 zero) := ⟨(hokk 0 (by omega)).1, (hokk 1 (by omega)).1, (hokk 0 (by omega)).2, (hokk 1 (by omega)).2, by rw [HT0.out, HT1.out]; exact hs⟩
        have HBN7 := Lib.hid (HBN.out.below HI7.out.bl)
        have HFIN : Hid (BLoadR b (PB ++ (b :: (S0 ++ S1))) k part rep s most q0 q1 lo0 lo1 zero w (.returned (.int .i64 0)) (((W7.drew.setCell ⟨b, 3, none⟩ (.iface sT (.pointer (some ⟨d0, 0, none⟩)))).setCell ⟨b, 4, none⟩ (.iface sT (.pointer (some ⟨d1, 0, none⟩)))).setCell ⟨b, 5, none⟩ (.int .u64 zero))) := by
          have hbd : Below W7.heap.size W7 W7.drew := (Below.refl _ _).drew
          have g0 := HSD.out.1.1
          have g1 := HSD.out.1.2
          have hbb := HLTB.out
          have hpb := HBN.out.pr.lt
          have e := BnB.stored (zero := zero) (HBN7.out.below hbd) (HSD7.out.1.below hbd) (HSD7.out.2.below hbd) (fun hm => by have := g0 _ hm; omega) (fun hm => by have := g1 _ hm; omega) HSD.out.2.1 (fun i hi hm => by have := g0 _ hm; have := hpb i hi; omega) (fun i hi hm => by have := g1 _ hm; have := hpb i hi; omega)
          rw [HSZ.out, HT0.out, HT1.out] at e
          refine .inl ⟨HG.out, rfl, PB ++ (b :: (D0 ++ D1)), fun i hi => ?_, ⟨PB, pa, d0, d1, D0, D1, rfl, by rw [HT0.out, HT1.out]; exact e.1⟩, (Frame.of_below (keep1 HI7.out.bl hbd)).trans (e.2.mono fun i hi => by simp at hi; simp [hi])⟩
          simp only [List.mem_append, List.mem_cons] at hi ⊢
          rcases hi with hi | rfl | hi | hi
          · exact .inl (.inl hi)
          · exact .inl (.inr (.inl rfl))
          · exact .inr (by have := g0 _ hi; omega)
          · exact .inr (by have := g1 _ hi; omega)
        have s8 : LdT (w.heap.size + 2) (.iface sT (.pointer (some ⟨d0, 0, none⟩))) (.iface sT (.pointer (some ⟨d1, 0, none⟩))) W7.drew := s7.drew
        have b8 := HBN7.out.at'.drew
        have hbs : w.heap.size + 2 ≠ b := by have := HLTB.out; omega
        have HBS := Lib.hid hbs
        clear hs hokk HG HBN7 HI7 HSD7 s7 hbs
        go_wp2
        obtain ⟨W8, hW8⟩ : ∃ W, W7.drew = W := ⟨_, rfl⟩
        rw [hW8] at s8 b8 HFIN
        refine wp_region_noPanic ?_
        refine wp_region_held_drew (S := HeldS (LdT (w.heap.size + 2) (.iface sT (.pointer (some ⟨d0, 0, none⟩))) (.iface sT (.pointer (some ⟨d1, 0, none⟩))))) (by kernel_rfl) (by rw [hW8]; exact HeldS.mk' s8) (fun hHeld => ?_)
        rw [hW8] at hHeld ⊢
        clear hW8
        refine wpAnyH_run0 [true, true, true, true, true, true, true, true, true, true] 7 (by kernel_rfl) (by kernel_rfl) (fun _ _ _ _ h => h) (by kernel_rfl) hHeld ?_
        simp only [runOps_true, runOps_false, runOps_nil]
        repeat (first | go_big_quiet_skip | (go_big_quiet_want; go_big_quiet_op; go_big_quiet_on))
        refine wpQuiet_nil ?_
        have s9 : LdT (w.heap.size + 2) (.iface sT (.pointer (some ⟨d0, 0, none⟩))) (.iface sT (.pointer (some ⟨d1, 0, none⟩))) (W8.setCell ⟨b, 3, none⟩ (.iface sT (.pointer (some ⟨d0, 0, none⟩)))) := At.set_other (p := ⟨b, 3, none⟩) s8 HBS.out _
        have s10 : LdT (w.heap.size + 2) (.iface sT (.pointer (some ⟨d0, 0, none⟩))) (.iface sT (.pointer (some ⟨d1, 0, none⟩))) ((W8.setCell ⟨b, 3, none⟩ (.iface sT (.pointer (some ⟨d0, 0, none⟩)))).setCell ⟨b, 4, none⟩ (.iface sT (.pointer (some ⟨d1, 0, none⟩)))) := At.set_other (p := ⟨b, 4, none⟩) s9 HBS.out _
        have s11 : LdT (w.heap.size + 2) (.iface sT (.pointer (some ⟨d0, 0, none⟩))) (.iface sT (.pointer (some ⟨d1, 0, none⟩))) (((W8.setCell ⟨b, 3, none⟩ (.iface sT (.pointer (some ⟨d0, 0, none⟩)))).setCell ⟨b, 4, none⟩ (.iface sT (.pointer (some ⟨d1, 0, none⟩)))).setCell ⟨b, 5, none⟩ (.int .u64 zero)) := At.set_other (p := ⟨b, 5, none⟩) s10 HBS.out _
        have f8 := b8.six
        have l8 := b8.lt
        refine wpAnyH_ready (rs := [10]) (by kernel_rfl) (by simp) ?_
        refine AllReadyH.cons rfl (fun K hK => ?_) (AllReadyH.nil)
        go_simp
        go_wp2
        refine hK.out _ _ (HeldS.mk' s9) (fun hHeld => ?_)
        clear hK K
        refine wpAnyH_run0 [false, false, false, false, false, false, false, false, false, false, false, true, true] 4 (by kernel_rfl) (by kernel_rfl) (fun _ _ _ _ h => h) (by kernel_rfl) hHeld ?_
        simp only [runOps_true, runOps_false, runOps_nil]
        repeat (first | go_big_quiet_skip | (go_big_quiet_want; go_big_quiet_op; go_big_quiet_on))
        refine wpQuiet_nil ?_
        refine wpAnyH_ready (rs := [13]) (by kernel_rfl) (by simp) ?_
        refine AllReadyH.cons rfl (fun K hK => ?_) (AllReadyH.nil)
        go_simp
        go_wp2
        refine hK.out _ _ (HeldS.mk' s10) (fun hHeld => ?_)
        clear hK K
        refine wpAnyH_run0 [false, false, false, false, false, false, false, false, false, false, false, false, false, false, true, true] 1 (by kernel_rfl) (by kernel_rfl) (fun _ _ _ _ h => h) (by kernel_rfl) hHeld ?_
        simp only [runOps_true, runOps_false, runOps_nil]
        repeat (first | go_big_quiet_skip | (go_big_quiet_want; go_big_quiet_op; go_big_quiet_on))
        refine wpQuiet_nil ?_
        refine wpAnyH_ready (rs := [16]) (by kernel_rfl) (by simp) ?_
        refine AllReadyH.cons rfl (fun K hK => ?_) (AllReadyH.nil)
        go_simp
        go_wp2
        refine hK.out _ _ (HeldS.mk' s11) (fun hHeld => ?_)
        clear hK K
        refine wpAnyH_done (by kernel_rfl) ?_ _
        refine NoPanic.normal ?_
        clear hfar hne hHeld s8 s9 s10 s11 b8 f8 l8
        go_wp2
        go_ret
        exact HFIN.out
      · rw [decide_eq_false hs]
        have HBD : Hid (¬ BLoad rep s most q0 q1 lo0 lo1 zero) := fun k => by have := k.sm; rw [HT0.out, HT1.out] at this; exact hs this
        clear hs hfar hne s7
        go_wp2
        go_ret
        exact BLoadR.bad HBD.out HI7.out.bl
end Go.Proofs.YtlbnlmhcpephbaaGreatDoor

namespace Go.Proofs.YtlbnlmhcpephbaaGreatDoor
open Go.RowKit
theorem rowV_all {P : Int → Prop} {part : Nat → Int} {l : List (Int × Int)} {below : Bool} (hP : ∀ v ∈ l, sgn below v.1 = true → P (part v.1.natAbs)) : ∀ x ∈ rowV part below l, P x.1 := by
 intro x hx
 have key : ∀ (k ps : List (Int × Int)), (∀ y ∈ ps, P y.1) → (∀ y ∈ k, P y.1) → ∀ y ∈ addAll ps k, P y.1 := by
  intro k
  induction k with
  | nil => intro ps hp _ y hy; exact hp y hy
  | cons z k ih =>
   intro ps hp hk
   refine ih (rowAdd ps z.1 z.2) (fun y hy => ?_) fun y hy => hk y (by simp [hy])
   unfold rowAdd at hy
   rcases List.mem_append.1 hy with hy | hy
   ·rcases List.mem_append.1 hy with hy | hy
    ·exact hp y (List.mem_filter.1 hy).1
    ·split at hy
     ·rw [List.mem_singleton] at hy; subst hy; exact hk z (by simp)
     ·simp at hy
   ·exact hp y (List.mem_filter.1 hy).1
 refine key _ [] (fun y hy => by simp at hy) (fun y hy => ?_) x hx
 unfold selV at hy
 obtain ⟨v, hv, rfl⟩ := List.mem_map.1 hy
 obtain ⟨v1, v2⟩ := List.mem_filter.1 hv
 exact hP v v1 v2
theorem mem_le_sum : ∀ {ks : List (Int × Int)} {v : Int × Int}, (∀ v ∈ ks, 0 < v.2) → v ∈ ks → v.2 ≤ sumP ks
 | [], _, _, h => by simp at h
 | a :: ks, v, hk, hm => by
  rw [sumP_cons]
  have h1 := sumP_nonneg (ps := ks) fun y hy => hk y (by simp [hy])
  have h2 := hk a (by simp)
  rcases List.mem_cons.1 hm with rfl | hm
  ·omega
  ·have := mem_le_sum (fun y hy => hk y (by simp [hy])) hm; omega
theorem sload_kept {s : Bool} {most : Int} {row : List (Int × Int)} (h : Gd row) (hs : sumP row ≤ 9223372036854775807) (hm : 1 ≤ most) : SLoad s most (keptP s most row) (sumP row - sumP (keptP s most row)) := by
 have g := kept_gd (s := s) (most := most) h
 refine ⟨⟨g, fun x hx => ?_⟩, win_len g (kept_win h hm) hm, by omega, kept_win h hm, fun e => ?_⟩
 ·have := mem_le_sum h.pos (kept_sub hx); omega
 ·by_cases hn : row = []
  ·subst hn; rw [kept_nil]; omega
  ·exact absurd e (kept_end h hm hn).1
theorem bload_ok {w : World} {b : Nat} {S : List Nat} {k s : Bool} {part : Nat → Int} {rep : Int → Int} {most : Int} {l l' : List (Int × Int)} (h : BnV w b S k part rep s most l') (hv : VOk l) :
  BLoad rep s most (keptP s most (rowV part true l)) (keptP s most (rowV part false l)) (negV l - sumP (keptP s most (rowV part true l))) (posV l - sumP (keptP s most (rowV part false l))) (zeroV l) := by
 have hm := h.m14
 obtain ⟨PB, pa, c0, c1, S0, S1, rfl, h⟩ := h
 have hp := h.prt
 obtain ⟨t1, t2, t3, t4⟩ := hv.three
 have hs := hv.sum
 have hr : ∀ bl, RepOk rep (keptP s most (rowV part bl l)) := fun bl x hx => by
  refine rowV_all (P := fun i => 0 ≤ i ∧ rep i ≠ 0) (fun v hv1 hs1 => ?_) x (kept_sub hx)
  have v3 := (hv.ok v hv1).1
  have v4 : v.1 ≠ 0 := fun e => by unfold sgn at hs1; rw [e] at hs1; simp at hs1
  have a := hp.rng v.1.natAbs (by omega) (by omega)
  have b := hp.some v.1.natAbs (by omega) (by omega)
  exact ⟨a.1, by omega⟩
 have g0 := rowV_gd (part := part) (below := true) hv.pos (by omega)
 have g1 := rowV_gd (part := part) (below := false) hv.pos (by omega)
 have e0 := negV_row (part := part) hv.pos (by omega)
 have e1 := posV_row (part := part) hv.pos (by omega)
 have k0 := sload_kept (s := s) (most := most) g0 (by omega) hm.1
 have k1 := sload_kept (s := s) (most := most) g1 (by omega) hm.1
 rw [e0] at k0
 rw [e1] at k1
 exact ⟨hr true, hr false, k0, k1, by omega⟩
theorem bload_v (b : Nat) (S : List Nat) (k : Bool) (part : Nat → Int) (rep : Int → Int) (s : Bool) (most : Int) (l : List (Int × Int))
  (A0 : Option Addr) (n0 cp0 : Nat) (q0 : List (Int × Int)) (A1 : Option Addr) (n1 cp1 : Nat) (q1 : List (Int × Int)) (lo0 lo1 zero : Int) (w : World)
  (h : BnV w b S k part rep s most l) (k0 : q0.length = n0) (k1 : q1.length = n1) (m0 : n0 ≤ 9223372036854775807) (m1 : n1 ≤ 9223372036854775807) (R0 : RdP w A0 q0) (R1 : RdP w A1 q1) (o0 : okP q0) (o1 : okP q1)
  (hl0 : 0 ≤ lo0 ∧ lo0 < 18446744073709551616) (hl1 : 0 ≤ lo1 ∧ lo1 < 18446744073709551616) (hz : 0 ≤ zero ∧ zero < 18446744073709551616) :
  Calls Tryz.prog 86 #[.pointer (some ⟨b, 0, none⟩), .agg #[.slice A0 n0 cp0, .slice A1 n1 cp1], .agg #[.int .u64 lo0, .int .u64 lo1], .int .u64 zero] w fun e w' => BLoadR b S k part rep s most q0 q1 lo0 lo1 zero w e w' := by
 obtain ⟨PB, pa, c0, c1, S0, S1, rfl, h⟩ := h
 exact bload_at PB b k pa part rep s most c0 c1 S0 S1 _ _ _ _ _ A0 n0 cp0 q0 A1 n1 cp1 q1 lo0 lo1 zero w h k0 k1 m0 m1 R0 R1 o0 o1 hl0 hl1 hz
theorem bload_own (b : Nat) (S : List Nat) (k : Bool) (part : Nat → Int) (rep : Int → Int) (s : Bool) (most : Int) (l' l : List (Int × Int)) (A0 : Option Addr) (n0 cp0 : Nat) (A1 : Option Addr) (n1 cp1 : Nat) (w : World)
  (h : BnV w b S k part rep s most l') (hv : VOk l) (k0 : (keptP s most (rowV part true l)).length = n0) (k1 : (keptP s most (rowV part false l)).length = n1) (R0 : RdP w A0 (keptP s most (rowV part true l))) (R1 : RdP w A1 (keptP s most (rowV part false l))) :
  Calls Tryz.prog 86 #[.pointer (some ⟨b, 0, none⟩), .agg #[.slice A0 n0 cp0, .slice A1 n1 cp1], .agg #[.int .u64 (negV l - sumP (keptP s most (rowV part true l))), .int .u64 (posV l - sumP (keptP s most (rowV part false l)))], .int .u64 (zeroV l)] w fun e w' =>
   e = .returned (.int .i64 0) ∧ BpvR b S k part rep s most l w w' := by
 have hok := bload_ok h hv
 have hm := h.m14
 have hr := h.rng
 obtain ⟨t1, t2, t3, t4⟩ := hv.three
 have hs := hv.sum
 have hpr : ∀ a, 0 < a → a ≤ 9223372036854775808 → -9223372036854775808 ≤ part a ∧ part a ≤ 9223372036854775807 := fun a h0 h1 => by
  have := hr a h0 h1
  omega
 have e0 := hok.l0.ln
 have e1 := hok.l1.ln
 have p0 := hok.l0.sm
 have p1 := hok.l1.sm
 have s0 := sumP_nonneg hok.l0.gm.gd.pos
 have s1 := sumP_nonneg hok.l1.gm.gd.pos
 have g0 := rowV_gd (part := part) (below := true) hv.pos (by omega)
 have g1 := rowV_gd (part := part) (below := false) hv.pos (by omega)
 have f0 := negV_row (part := part) hv.pos (by omega)
 have f1 := posV_row (part := part) hv.pos (by omega)
 have u0 := (sumP_filter_le g0.pos fun x => decide (gap s (endP s (rowV part true l)) x.1 < most)).2
 have u1 := (sumP_filter_le g1.pos fun x => decide (gap s (endP s (rowV part false l)) x.1 < most)).2
 replace u0 : sumP (keptP s most (rowV part true l)) ≤ sumP (rowV part true l) := u0
 replace u1 : sumP (keptP s most (rowV part false l)) ≤ sumP (rowV part false l) := u1
 refine (bload_v b S k part rep s most l' A0 n0 cp0 _ A1 n1 cp1 _ _ _ (zeroV l) w h k0 k1 (by omega) (by omega) R0 R1 ((rowV_ok hpr hv.ok).filter _) ((rowV_ok hpr hv.ok).filter _) (by omega) (by omega) (by omega)).mono ?_
 rintro e w' (⟨_, rfl, S', hg, hB, hF⟩ | ⟨hno, _⟩)
 ·refine ⟨rfl, S', hg, ?_, hF⟩
  rw [show sumP (keptP s most (rowV part true l)) + (negV l - sumP (keptP s most (rowV part true l))) = negV l by omega, show sumP (keptP s most (rowV part false l)) + (posV l - sumP (keptP s most (rowV part false l))) = posV l by omega] at hB
  exact hB
 ·exact absurd hok hno
section
variable {b : Nat} {S : List Nat} {k s : Bool} {part : Nat → Int} {rep : Int → Int} {most : Int} {ps0 ps1 : List (Int × Int)} {t0 t1 zero : Int}
end
end Go.Proofs.YtlbnlmhcpephbaaGreatDoor

namespace Go.Proofs.YtlbnlmhcpephbaaGreatDoor
open Go.RowKit
def Cfg.bare (c : Cfg) : Cfg := if c.kd = 1 then ⟨1, c.pn, c.pd, c.sd, c.mo, 0, 0, 0, 0, 0, 0⟩ else ⟨2, 0, 0, 0, 0, c.dg, c.li, 0, 0, 0, 0⟩
set_option maxRecDepth 100000 in
set_option maxHeartbeats 4000000 in
theorem sbare_any (c : Cfg) (w : World) (hk : c.kd = 1 ∨ c.kd = 2) :
  Calls Tryz.prog 36 #[c.val] w fun e w' => e = .returned c.bare.val ∧ Below w.heap.size w w' := by
 obtain ⟨kd, pn, pd, sd, mo, dg, li, de, fa, wi, wo⟩ := c
 dsimp only at hk
 rcases hk with rfl | rfl
 ·have HV : Hid ((Cfg.mk 1 pn pd sd mo dg li de fa wi wo).bare.val = .agg #[.int .i64 1, .int .u64 pn, .int .u64 pd, .int .i64 sd, .int .i64 mo, .int .i64 0, .int .u64 0, .int .i64 0, .int .i64 0, .int .i64 0, .int .u64 0]) := rfl
  show Calls _ _ #[.agg #[.int .i64 1, .int .u64 pn, .int .u64 pd, .int .i64 sd, .int .i64 mo, .int .i64 dg, .int .u64 li, .int .i64 de, .int .i64 fa, .int .i64 wi, .int .u64 wo]] _ _
  have d2 := (((At.new' (w.alloc (.cells #[.int .i64 1, .int .u64 pn, .int .u64 pd, .int .i64 sd, .int .i64 mo, .int .i64 dg, .int .u64 li, .int .i64 de, .int .i64 fa, .int .i64 wi, .int .u64 wo] 28)) #[.int .i64 1, .int .u64 pn, .int .u64 pd, .int .i64 sd, .int .i64 mo, .int .i64 0, .int .u64 0, .int .i64 0, .int .i64 0, .int .i64 0, .int .u64 0] 28 (b := w.heap.size + 1) (by simp)).alloc (.cells #[.int .i64 1, .int .u64 pn, .int .u64 pd, .int .i64 sd, .int .i64 mo, .int .i64 0, .int .u64 0, .int .i64 0, .int .i64 0, .int .i64 0, .int .u64 0] 28)).drew).el
  go_enter Tryz.func36, Tryz.ntmps36
  go_wp2
  go_region
  go_wp2
  exact bodyPost_ret (v := .agg #[.int .i64 1, .int .u64 pn, .int .u64 pd, .int .i64 sd, .int .i64 mo, .int .i64 0, .int .u64 0, .int .i64 0, .int .i64 0, .int .i64 0, .int .u64 0]) (by simp only [results, Tryz.f36]; simp [go_sem, d2]) rfl ⟨by rw [HV.out], (by repeat (first | with_reducible assumption | with_reducible exact Below.refl _ _ | with_reducible refine Below.drew ?_ | with_reducible refine Below.drewN ?_ _ | with_reducible refine Below.setCell ?_ (by first | omega | (simp; done) | (simp; omega)) _ | with_reducible refine Below.alloc ?_ (by first | omega | (simp; done) | (simp; omega) | (simp [World.setCell]; omega)) _))⟩
 ·have HV : Hid ((Cfg.mk 2 pn pd sd mo dg li de fa wi wo).bare.val = .agg #[.int .i64 2, .int .u64 0, .int .u64 0, .int .i64 0, .int .i64 0, .int .i64 dg, .int .u64 li, .int .i64 0, .int .i64 0, .int .i64 0, .int .u64 0]) := rfl
  show Calls _ _ #[.agg #[.int .i64 2, .int .u64 pn, .int .u64 pd, .int .i64 sd, .int .i64 mo, .int .i64 dg, .int .u64 li, .int .i64 de, .int .i64 fa, .int .i64 wi, .int .u64 wo]] _ _
  have d2 := (((At.new' (w.alloc (.cells #[.int .i64 2, .int .u64 pn, .int .u64 pd, .int .i64 sd, .int .i64 mo, .int .i64 dg, .int .u64 li, .int .i64 de, .int .i64 fa, .int .i64 wi, .int .u64 wo] 28)) #[.int .i64 2, .int .u64 0, .int .u64 0, .int .i64 0, .int .i64 0, .int .i64 dg, .int .u64 li, .int .i64 0, .int .i64 0, .int .i64 0, .int .u64 0] 28 (b := w.heap.size + 1) (by simp)).alloc (.cells #[.int .i64 2, .int .u64 0, .int .u64 0, .int .i64 0, .int .i64 0, .int .i64 dg, .int .u64 li, .int .i64 0, .int .i64 0, .int .i64 0, .int .u64 0] 28)).drew).el
  go_enter Tryz.func36, Tryz.ntmps36
  go_wp2
  go_region
  go_wp2
  exact bodyPost_ret (v := .agg #[.int .i64 2, .int .u64 0, .int .u64 0, .int .i64 0, .int .i64 0, .int .i64 dg, .int .u64 li, .int .i64 0, .int .i64 0, .int .i64 0, .int .u64 0]) (by simp only [results, Tryz.f36]; simp [go_sem, d2]) rfl ⟨by rw [HV.out], (by repeat (first | with_reducible assumption | with_reducible exact Below.refl _ _ | with_reducible refine Below.drew ?_ | with_reducible refine Below.drewN ?_ _ | with_reducible refine Below.setCell ?_ (by first | omega | (simp; done) | (simp; omega)) _ | with_reducible refine Below.alloc ?_ (by first | omega | (simp; done) | (simp; omega) | (simp [World.setCell]; omega)) _))⟩
end Go.Proofs.YtlbnlmhcpephbaaGreatDoor

namespace Go.Proofs.YtlbnlmhcpephbaaGreatDoor
open Go.RowKit
def coreLog (q : Option Addr) : Value := .iface 105 (.agg #[.pointer q])
def coreHdr (q : Option Addr) : Value := .iface 112 (.agg #[.pointer q])
theorem hdv_nil {w : World} {b : Nat} {S : List Nat} {d lim : Int} (h : Hh.Hd w b S d lim [] [] 0 0 0) : Hh.HdV w b S d lim [] := h
set_option maxRecDepth 100000 in
set_option maxHeartbeats 4000000 in
theorem sfresh_log (kd pn pd sd mo dg li de fa wi wo : Int) (w : World) (hk : kd = 1) (h1 : 0 ≤ pn) (h2 : pn < 18446744073709551616) (h3 : 0 ≤ pd) (h4 : pd < 18446744073709551616) :
  Calls Tryz.prog 37 #[.agg #[.int .i64 kd, .int .u64 pn, .int .u64 pd, .int .i64 sd, .int .i64 mo, .int .i64 dg, .int .u64 li, .int .i64 de, .int .i64 fa, .int .i64 wi, .int .u64 wo]] w fun e w' =>
   ((∃ part rep stand s q Q, Cs pn pd 0 false part rep stand ∧ sd = sideZ s ∧ (1 ≤ mo ∧ mo ≤ 4096) ∧ e = .returned (.tuple #[coreLog (some ⟨q, 0, none⟩), .int .i64 0]) ∧ Within Q w.heap.size w'.heap.size ∧ LsV w' q Q part rep pn pd s mo []) ∨
   (∃ f : Int, f ≠ 0 ∧ e = .returned (.tuple #[coreLog none, .int .i64 f]))) ∧ Below w.heap.size w w' := by
 subst hk
 have hba : Below w.heap.size w (w.alloc (.cells #[.int .i64 1, .int .u64 pn, .int .u64 pd, .int .i64 sd, .int .i64 mo, .int .i64 dg, .int .u64 li, .int .i64 de, .int .i64 fa, .int .i64 wi, .int .u64 wo] 28)) := (Below.refl _ _).alloc (Nat.le_refl _) _
 have f1 := (At.new w #[.int .i64 1, .int .u64 pn, .int .u64 pd, .int .i64 sd, .int .i64 mo, .int .i64 dg, .int .u64 li, .int .i64 de, .int .i64 fa, .int .i64 wi, .int .u64 wo] 28).el
 have l1 := (At.new w #[.int .i64 1, .int .u64 pn, .int .u64 pd, .int .i64 sd, .int .i64 mo, .int .i64 dg, .int .u64 li, .int .i64 de, .int .i64 fa, .int .i64 wi, .int .u64 wo] 28).lt
 have HN := Lib.hid fun W => lsnew_any pn pd sd mo W h1 h2 h3 h4
 clear h1 h2 h3 h4
 go_enter Tryz.func37, Tryz.ntmps37
 go_wp2_with fail
 obtain ⟨W1, hW1⟩ : ∃ W, w.alloc (.cells #[.int .i64 1, .int .u64 pn, .int .u64 pd, .int .i64 sd, .int .i64 mo, .int .i64 dg, .int .u64 li, .int .i64 de, .int .i64 fa, .int .i64 wi, .int .u64 wo] 28) = W := ⟨_, rfl⟩
 rw [hW1] at hba
 simp only [hW1]
 have HBA := Lib.hid hba
 clear hW1 f1 l1 hba
 refine (HN.out W1).mono ?_
 rintro e w1 ⟨⟨part, rep, stand, s, q, Q, hc, hz, hm, rfl, hW, hL⟩ | ⟨f, rfl, hf, _⟩, hb⟩
 ·have HR : Hid ((1 ≤ mo ∧ mo ≤ 4096) ∧ Within Q w.heap.size w1.heap.size) := ⟨hm, fun j hj => ⟨by have := (hW j hj).1; have := HBA.out.size; omega, (hW j hj).2⟩⟩
  have HC := Lib.hid hc
  have HZ := Lib.hid hz
  have HL := Lib.hid hL
  have HB := Lib.hid (keep1 HBA.out hb)
  clear hc hz hm hW hL hb HBA HN
  go_wp2
  go_ret2
  exact ⟨.inl ⟨part, rep, stand, s, q, Q, HC.out, HZ.out, HR.out.1, rfl, HR.out.2, HL.out⟩, HB.out⟩
 ·have HF : Hid (f ≠ 0) := by show f ≠ 0; omega
  have HB := Lib.hid (keep1 HBA.out hb)
  clear hf hb HBA HN
  go_wp2
  go_ret2
  exact ⟨.inr ⟨f, HF.out, rfl⟩, HB.out⟩
set_option maxRecDepth 100000 in
set_option maxHeartbeats 4000000 in
theorem sfresh_hdr (kd pn pd sd mo dg li de fa wi wo : Int) (w : World) (hT : TensAt w) (hk : kd = 2) (h1 : 0 ≤ li) (h2 : li < 18446744073709551616) :
  Calls Tryz.prog 37 #[.agg #[.int .i64 kd, .int .u64 pn, .int .u64 pd, .int .i64 sd, .int .i64 mo, .int .i64 dg, .int .u64 li, .int .i64 de, .int .i64 fa, .int .i64 wi, .int .u64 wo]] w fun e w' =>
   (((1 ≤ dg ∧ dg ≤ 4) ∧ li ≤ 9223372036854775808 ∧ ∃ q Q, e = .returned (.tuple #[coreHdr (some ⟨q, 0, none⟩), .int .i64 0]) ∧ Within Q w.heap.size w'.heap.size ∧ Hh.HdV w' q Q dg li []) ∨
   (∃ f : Int, f ≠ 0 ∧ e = .returned (.tuple #[coreHdr none, .int .i64 f]))) ∧ Below w.heap.size w w' := by
 subst hk
 have hba : Below w.heap.size w (w.alloc (.cells #[.int .i64 2, .int .u64 pn, .int .u64 pd, .int .i64 sd, .int .i64 mo, .int .i64 dg, .int .u64 li, .int .i64 de, .int .i64 fa, .int .i64 wi, .int .u64 wo] 28)) := (Below.refl _ _).alloc (Nat.le_refl _) _
 have f1 := (At.new w #[.int .i64 2, .int .u64 pn, .int .u64 pd, .int .i64 sd, .int .i64 mo, .int .i64 dg, .int .u64 li, .int .i64 de, .int .i64 fa, .int .i64 wi, .int .u64 wo] 28).el
 have l1 := (At.new w #[.int .i64 2, .int .u64 pn, .int .u64 pd, .int .i64 sd, .int .i64 mo, .int .i64 dg, .int .u64 li, .int .i64 de, .int .i64 fa, .int .i64 wi, .int .u64 wo] 28).lt
 have HT := Lib.hid hT
 have HL := Lib.hid (And.intro h1 h2)
 clear h1 h2 hT
 go_enter Tryz.func37, Tryz.ntmps37
 go_wp2_with fail
 obtain ⟨W1, hW1⟩ : ∃ W, w.alloc (.cells #[.int .i64 2, .int .u64 pn, .int .u64 pd, .int .i64 sd, .int .i64 mo, .int .i64 dg, .int .u64 li, .int .i64 de, .int .i64 fa, .int .i64 wi, .int .u64 wo] 28) = W := ⟨_, rfl⟩
 rw [hW1] at hba
 simp only [hW1]
 have HBA := Lib.hid hba
 clear hW1 f1 l1 hba
 by_cases hd : (1 ≤ dg ∧ dg ≤ 4) ∧ li ≤ 9223372036854775808
 ·have HD := Lib.hid hd
  clear hd
  refine (Hh.hnew_any dg li W1 (HT.out.below HBA.out) HD.out.1.1 HD.out.1.2 HL.out.1 HD.out.2).mono ?_
  rintro e w1 ⟨⟨q, Q, rfl, hW, hH⟩, hb⟩
  have HR : Hid (Within Q w.heap.size w1.heap.size) := fun j hj => ⟨by have := (hW j hj).1; have := HBA.out.size; omega, (hW j hj).2⟩
  have HH := Lib.hid (hdv_nil hH)
  have HB := Lib.hid (keep1 HBA.out hb)
  clear hW hH hb HBA
  go_wp2
  go_ret2
  exact ⟨.inl ⟨HD.out.1, HD.out.2, q, Q, rfl, HR.out, HH.out⟩, HB.out⟩
 ·refine (Hh.hnew_bad dg li W1 (HT.out.below HBA.out) (by omega)).mono ?_
  rintro e w1 ⟨rfl, hb⟩
  have HB := Lib.hid (keep1 HBA.out hb)
  clear hb HBA hd
  go_wp2
  go_ret2
  exact ⟨.inr ⟨1, by omega, rfl⟩, HB.out⟩
end Go.Proofs.YtlbnlmhcpephbaaGreatDoor

namespace Go.Proofs.YtlbnlmhcpephbaaGreatDoor
open Go.RowKit
def inLim (c : Cfg) (x : Int) : Prop := c.kd = 2 → c.li = 0 ∨ (0 < c.li ∧ (x.natAbs : Int) ≤ c.li)
structure CfgOk (c : Cfg) : Prop where
 bare : c.bare = c
 ok : c.Ok
def SkV (w : World) (b : Nat) (S : List Nat) (c : Cfg) (l : List (Int × Int)) : Prop :=
  CfgOk c ∧ ∃ q Q, S = b :: Q ∧ b ∉ Q ∧
    ((c.kd = 1 ∧ At w b #[.int .i64 c.kd, .int .u64 c.pn, .int .u64 c.pd, .int .i64 c.sd, .int .i64 c.mo, .int .i64 c.dg, .int .u64 c.li, .int .i64 c.de, .int .i64 c.fa, .int .i64 c.wi, .int .u64 c.wo, coreLog (some ⟨q, 0, none⟩)] 79 ∧ ∃ s part rep stand, Cs c.pn c.pd 0 false part rep stand ∧ c.sd = sideZ s ∧ (1 ≤ c.mo ∧ c.mo ≤ 4096) ∧ LsV w q Q part rep c.pn c.pd s c.mo l) ∨
     (c.kd = 2 ∧ At w b #[.int .i64 c.kd, .int .u64 c.pn, .int .u64 c.pd, .int .i64 c.sd, .int .i64 c.mo, .int .i64 c.dg, .int .u64 c.li, .int .i64 c.de, .int .i64 c.fa, .int .i64 c.wi, .int .u64 c.wo, coreHdr (some ⟨q, 0, none⟩)] 79 ∧ (1 ≤ c.dg ∧ c.dg ≤ 4) ∧ c.li ≤ 9223372036854775808 ∧ (∀ v ∈ l, inLim c v.1) ∧ Hh.HdV w q Q c.dg c.li l))
section
variable {w w' : World} {b : Nat} {S T : List Nat} {c : Cfg} {l : List (Int × Int)}
theorem SkV.frame (h : SkV w b S c l) (hf : Frame T w w') (hn : Apart S T) : SkV w' b S c l := by
 obtain ⟨hc, q, Q, rfl, hb, h⟩ := h
 refine ⟨hc, q, Q, rfl, hb, ?_⟩
 have hbT : b ∉ T := hn b (by simp)
 have hQ : Apart Q T := fun j hj => hn j (by simp [hj])
 rcases h with ⟨k, ha, s, part, rep, stand, h1, h2, h3, h4⟩ | ⟨k, ha, h1, h2, h3, h4⟩
 ·exact .inl ⟨k, hf.at ha hbT, s, part, rep, stand, h1, h2, h3, Ls.frame h4 hf hQ⟩
 ·exact .inr ⟨k, hf.at ha hbT, h1, h2, h3, h4.frame hf hQ⟩
theorem SkV.below (h : SkV w b S c l) (hb : Below w.heap.size w w') : SkV w' b S c l := h.frame (T := []) (Frame.of_below hb) (fun _ _ => by simp)
theorem SkV.lt (h : SkV w b S c l) : ∀ k ∈ S, k < w.heap.size := by
 obtain ⟨hc, q, Q, rfl, hb, h⟩ := h
 intro k hk
 rcases h with ⟨_, ha, s, part, rep, stand, h1, h2, h3, h4⟩ | ⟨_, ha, h1, h2, h3, h4⟩
 ·rcases List.mem_cons.1 hk with rfl | hk
  ·exact ha.lt
  ·exact Ls.lt h4 k hk
 ·rcases List.mem_cons.1 hk with rfl | hk
  ·exact ha.lt
  ·exact h4.lt k hk
theorem SkV.mem (h : SkV w b S c l) : b ∈ S := by
 obtain ⟨hc, q, Q, rfl, hb, h⟩ := h
 simp
end
theorem sconf_log (kd pn pd sd mo dg li de fa wi wo : Int) (w : World) (h : ¬ (dg = 0 ∧ li = 0 ∧ de = 0 ∧ fa = 0 ∧ wi = 0 ∧ wo = 0)) : (binOp .neq 28 (.agg #[.int .i64 1, .int .u64 pn, .int .u64 pd, .int .i64 sd, .int .i64 mo, .int .i64 dg, .int .u64 li, .int .i64 de, .int .i64 fa, .int .i64 wi, .int .u64 wo]) (.agg #[.int .i64 1, .int .u64 pn, .int .u64 pd, .int .i64 sd, .int .i64 mo, .int .i64 0, .int .u64 0, .int .i64 0, .int .i64 0, .int .i64 0, .int .u64 0])).run Tryz.prog w = .ok (.bool true) w := by
 go_simp
 exact fun e1 e2 e3 e4 e5 e6 => h ⟨e1, e2, e3, e4, e5, e6⟩
theorem sconf_hdr (kd pn pd sd mo dg li de fa wi wo : Int) (w : World) (h : ¬ (pn = 0 ∧ pd = 0 ∧ sd = 0 ∧ mo = 0 ∧ de = 0 ∧ fa = 0 ∧ wi = 0 ∧ wo = 0)) : (binOp .neq 28 (.agg #[.int .i64 2, .int .u64 pn, .int .u64 pd, .int .i64 sd, .int .i64 mo, .int .i64 dg, .int .u64 li, .int .i64 de, .int .i64 fa, .int .i64 wi, .int .u64 wo]) (.agg #[.int .i64 2, .int .u64 0, .int .u64 0, .int .i64 0, .int .i64 0, .int .i64 dg, .int .u64 li, .int .i64 0, .int .i64 0, .int .i64 0, .int .u64 0])).run Tryz.prog w = .ok (.bool true) w := by
 go_simp
 exact fun e1 e2 e3 e4 e5 e6 e7 e8 => h ⟨e1, e2, e3, e4, e5, e6, e7, e8⟩
set_option maxRecDepth 100000 in
set_option maxHeartbeats 4000000 in
theorem sknew_log (pn pd sd mo : Int) (w : World) (hok : (Cfg.mk 1 pn pd sd mo 0 0 0 0 0 0).Ok) :
  Calls Tryz.prog 25 #[.agg #[.int .i64 1, .int .u64 pn, .int .u64 pd, .int .i64 sd, .int .i64 mo, .int .i64 0, .int .u64 0, .int .i64 0, .int .i64 0, .int .i64 0, .int .u64 0]] w fun e w' => ((∃ b S, e = .returned (.tuple #[.pointer (some ⟨b, 0, none⟩), .int .i64 0]) ∧ Within S w.heap.size w'.heap.size ∧ SkV w' b S (Cfg.mk 1 pn pd sd mo 0 0 0 0 0 0) []) ∨ (∃ f : Int, f ≠ 0 ∧ e = .returned (.tuple #[.pointer none, .int .i64 f]))) ∧ Below w.heap.size w w' := by
 have HBR : Hid (∀ W, Calls Tryz.prog 36 #[.agg #[.int .i64 1, .int .u64 pn, .int .u64 pd, .int .i64 sd, .int .i64 mo, .int .i64 0, .int .u64 0, .int .i64 0, .int .i64 0, .int .i64 0, .int .u64 0]] W fun e w' => e = .returned (.agg #[.int .i64 1, .int .u64 pn, .int .u64 pd, .int .i64 sd, .int .i64 mo, .int .i64 0, .int .u64 0, .int .i64 0, .int .i64 0, .int .i64 0, .int .u64 0]) ∧ Below W.heap.size W w') := fun W => sbare_any (Cfg.mk 1 pn pd sd mo 0 0 0 0 0 0) W (.inl rfl)
 have HOK := Lib.hid hok
 have HFR := Lib.hid fun W (hb : Below w.heap.size w W) => sfresh_log 1 pn pd sd mo 0 0 0 0 0 0 W rfl hok.pn.1 hok.pn.2 hok.pd.1 hok.pd.2
 have hba : Below w.heap.size w (w.alloc (.cells #[.int .i64 1, .int .u64 pn, .int .u64 pd, .int .i64 sd, .int .i64 mo, .int .i64 0, .int .u64 0, .int .i64 0, .int .i64 0, .int .i64 0, .int .u64 0] 28)) := (Below.refl _ _).alloc (Nat.le_refl _) _
 have s0 := At.new w #[.int .i64 1, .int .u64 pn, .int .u64 pd, .int .i64 sd, .int .i64 mo, .int .i64 0, .int .u64 0, .int .i64 0, .int .i64 0, .int .i64 0, .int .u64 0] 28
 clear hok
 go_enter Tryz.func25, Tryz.ntmps25
 go_wp2_with fail
 obtain ⟨W1, hW1⟩ : ∃ W, w.alloc (.cells #[.int .i64 1, .int .u64 pn, .int .u64 pd, .int .i64 sd, .int .i64 mo, .int .i64 0, .int .u64 0, .int .i64 0, .int .i64 0, .int .i64 0, .int .u64 0] 28) = W := ⟨_, rfl⟩
 obtain ⟨cb, hcb⟩ : ∃ r, w.heap.size = r := ⟨_, rfl⟩
 have HCB := Lib.hid hcb
 rw [hW1] at hba s0
 rw [hcb] at s0
 simp only [hW1, hcb]
 clear hW1 hcb
 have hfar1 := fun x : Far W1 => (x.at s0).el
 refine wp_region_far (by kernel_rfl) (by kernel_rfl) ?_
 repeat (first | go_big_quiet_skip | (go_big_quiet_want; go_big_quiet_op; first | go_big_quiet_on | (apply Exists.intro; refine ⟨fun _ => ?_, ?_⟩; (focus (first | (with_reducible refine far_of (HBR.out _)))); go_big_quiet_on)))
 refine wpQuiet_nil ?_
 rintro _ ⟨xq, rfl⟩
 clear hfar1
 have hbf := xq.below
 obtain ⟨W2, hW2⟩ : ∃ W, xq.far = W := ⟨_, rfl⟩
 rw [hW2] at hbf ⊢
 have s2 := s0.below hbf
 have f2 := s2.el
 have l2 := s2.lt
 have HB2 := Lib.hid (keep1 hba hbf)
 clear hba hbf hW2 s0
 go_wp2_with fail
 refine (HFR.out W2 HB2.out).mono ?_
 rintro e w3 ⟨⟨part, rep, stand, s, q, Q, hc, hz, hm, rfl, hW, hL⟩ | ⟨f, hf, rfl⟩, hb⟩
 all_goals unfold coreLog
 ·have HB3 := Lib.hid (keep1 HB2.out hb)
  have s3 := s2.below hb
  have f3 := s3.el
  have l3 := s3.lt
  have HLT : Hid (∀ j ∈ Q, j < w3.heap.size) := fun j hj => (hW j hj).2
  have hbe : Below w3.heap.size w3 (w3.alloc (.cells #[.int .i64 1, .int .u64 pn, .int .u64 pd, .int .i64 sd, .int .i64 mo, .int .i64 0, .int .u64 0, .int .i64 0, .int .i64 0, .int .i64 0, .int .u64 0, coreLog (some ⟨q, 0, none⟩)] 79)) := (Below.refl _ _).alloc (Nat.le_refl _) _
  have HE := Lib.hid hbe
  have HNB : Hid (w3.heap.size ∉ Q) := fun hm => by have := HLT.out _ hm; omega
  have HAT := Lib.hid (At.new w3 #[.int .i64 1, .int .u64 pn, .int .u64 pd, .int .i64 sd, .int .i64 mo, .int .i64 0, .int .u64 0, .int .i64 0, .int .i64 0, .int .i64 0, .int .u64 0, coreLog (some ⟨q, 0, none⟩)] 79)
  have HWI : Hid (Within (w3.heap.size :: Q) w.heap.size (w3.alloc (.cells #[.int .i64 1, .int .u64 pn, .int .u64 pd, .int .i64 sd, .int .i64 mo, .int .i64 0, .int .u64 0, .int .i64 0, .int .i64 0, .int .i64 0, .int .u64 0, coreLog (some ⟨q, 0, none⟩)] 79)).heap.size) := fun j hj => by
   rcases List.mem_cons.1 hj with rfl | hj
   ·exact ⟨HB3.out.size, HAT.out.lt⟩
   ·exact ⟨Nat.le_trans HB2.out.size (hW j hj).1, Nat.lt_of_lt_of_le (hW j hj).2 hbe.size⟩
  have HSK : Hid (SkV (w3.alloc (.cells #[.int .i64 1, .int .u64 pn, .int .u64 pd, .int .i64 sd, .int .i64 mo, .int .i64 0, .int .u64 0, .int .i64 0, .int .i64 0, .int .i64 0, .int .u64 0, coreLog (some ⟨q, 0, none⟩)] 79)) w3.heap.size (w3.heap.size :: Q) (Cfg.mk 1 pn pd sd mo 0 0 0 0 0 0) []) := ⟨⟨rfl, HOK.out⟩, q, Q, rfl, HNB.out, .inl ⟨rfl, HAT.out, s, part, rep, stand, hc, hz, hm, hL.below hbe⟩⟩
  have HFIN := Lib.hid (keep1 HB3.out hbe)
  clear hb hc hz hm hW hL hbe s2 s3 f2 l2
  go_wp2
  go_ret2
  exact ⟨.inl ⟨_, _, rfl, HWI.out, HSK.out⟩, HFIN.out⟩
 ·have HF := Lib.hid hf
  have hfz : (f == 0) = false := beq_eq_false_iff_ne.2 hf
  have HB3 := Lib.hid (keep1 HB2.out hb)
  clear hb hf f2 l2 s2
  go_wp2
  go_ret2
  exact ⟨.inr ⟨f, HF.out, rfl⟩, HB3.out⟩
set_option maxRecDepth 100000 in
set_option maxHeartbeats 4000000 in
theorem sknew_log_no (pn pd sd mo dg li de fa wi wo : Int) (w : World) (h : ¬ (dg = 0 ∧ li = 0 ∧ de = 0 ∧ fa = 0 ∧ wi = 0 ∧ wo = 0)) :
  Calls Tryz.prog 25 #[.agg #[.int .i64 1, .int .u64 pn, .int .u64 pd, .int .i64 sd, .int .i64 mo, .int .i64 dg, .int .u64 li, .int .i64 de, .int .i64 fa, .int .i64 wi, .int .u64 wo]] w fun e w' => e = .returned (.tuple #[.pointer none, .int .i64 1]) ∧ Below w.heap.size w w' := by
 have HBR : Hid (∀ W, Calls Tryz.prog 36 #[.agg #[.int .i64 1, .int .u64 pn, .int .u64 pd, .int .i64 sd, .int .i64 mo, .int .i64 dg, .int .u64 li, .int .i64 de, .int .i64 fa, .int .i64 wi, .int .u64 wo]] W fun e w' => e = .returned (.agg #[.int .i64 1, .int .u64 pn, .int .u64 pd, .int .i64 sd, .int .i64 mo, .int .i64 0, .int .u64 0, .int .i64 0, .int .i64 0, .int .i64 0, .int .u64 0]) ∧ Below W.heap.size W w') := fun W => sbare_any (Cfg.mk 1 pn pd sd mo dg li de fa wi wo) W (.inl rfl)
 have hne := fun W => sconf_log 0 pn pd sd mo dg li de fa wi wo W h
 have hba : Below w.heap.size w (w.alloc (.cells #[.int .i64 1, .int .u64 pn, .int .u64 pd, .int .i64 sd, .int .i64 mo, .int .i64 dg, .int .u64 li, .int .i64 de, .int .i64 fa, .int .i64 wi, .int .u64 wo] 28)) := (Below.refl _ _).alloc (Nat.le_refl _) _
 have s0 := At.new w #[.int .i64 1, .int .u64 pn, .int .u64 pd, .int .i64 sd, .int .i64 mo, .int .i64 dg, .int .u64 li, .int .i64 de, .int .i64 fa, .int .i64 wi, .int .u64 wo] 28
 clear h
 go_enter Tryz.func25, Tryz.ntmps25
 go_wp2_with fail
 obtain ⟨W1, hW1⟩ : ∃ W, w.alloc (.cells #[.int .i64 1, .int .u64 pn, .int .u64 pd, .int .i64 sd, .int .i64 mo, .int .i64 dg, .int .u64 li, .int .i64 de, .int .i64 fa, .int .i64 wi, .int .u64 wo] 28) = W := ⟨_, rfl⟩
 obtain ⟨cb, hcb⟩ : ∃ r, w.heap.size = r := ⟨_, rfl⟩
 have HCB := Lib.hid hcb
 rw [hW1] at hba s0
 rw [hcb] at s0
 simp only [hW1, hcb]
 clear hW1 hcb
 have hfar1 := fun x : Far W1 => (x.at s0).el
 refine wp_region_far (by kernel_rfl) (by kernel_rfl) ?_
 repeat (first | go_big_quiet_skip | (go_big_quiet_want; go_big_quiet_op; first | go_big_quiet_on | (apply Exists.intro; refine ⟨fun _ => ?_, ?_⟩; (focus (first | (with_reducible refine far_of (HBR.out _)))); go_big_quiet_on)))
 refine wpQuiet_nil ?_
 rintro _ ⟨xq, rfl⟩
 clear hfar1
 have hbf := xq.below
 have HB2 := Lib.hid (keep1 hba hbf)
 clear hba hbf s0 hne
 go_wp2
 go_ret2
 exact ⟨rfl, HB2.out⟩
set_option maxRecDepth 100000 in
set_option maxHeartbeats 4000000 in
theorem sknew_hdr (dg li : Int) (w : World) (hT : TensAt w) (hok : (Cfg.mk 2 0 0 0 0 dg li 0 0 0 0).Ok) :
  Calls Tryz.prog 25 #[.agg #[.int .i64 2, .int .u64 0, .int .u64 0, .int .i64 0, .int .i64 0, .int .i64 dg, .int .u64 li, .int .i64 0, .int .i64 0, .int .i64 0, .int .u64 0]] w fun e w' => ((∃ b S, e = .returned (.tuple #[.pointer (some ⟨b, 0, none⟩), .int .i64 0]) ∧ Within S w.heap.size w'.heap.size ∧ SkV w' b S (Cfg.mk 2 0 0 0 0 dg li 0 0 0 0) []) ∨ (∃ f : Int, f ≠ 0 ∧ e = .returned (.tuple #[.pointer none, .int .i64 f]))) ∧ Below w.heap.size w w' := by
 have HBR : Hid (∀ W, Calls Tryz.prog 36 #[.agg #[.int .i64 2, .int .u64 0, .int .u64 0, .int .i64 0, .int .i64 0, .int .i64 dg, .int .u64 li, .int .i64 0, .int .i64 0, .int .i64 0, .int .u64 0]] W fun e w' => e = .returned (.agg #[.int .i64 2, .int .u64 0, .int .u64 0, .int .i64 0, .int .i64 0, .int .i64 dg, .int .u64 li, .int .i64 0, .int .i64 0, .int .i64 0, .int .u64 0]) ∧ Below W.heap.size W w') := fun W => sbare_any (Cfg.mk 2 0 0 0 0 dg li 0 0 0 0) W (.inr rfl)
 have HOK := Lib.hid hok
 have HFR := Lib.hid fun W (hb : Below w.heap.size w W) => sfresh_hdr 2 0 0 0 0 dg li 0 0 0 0 W (hT.below hb) rfl hok.li.1 hok.li.2
 have hba : Below w.heap.size w (w.alloc (.cells #[.int .i64 2, .int .u64 0, .int .u64 0, .int .i64 0, .int .i64 0, .int .i64 dg, .int .u64 li, .int .i64 0, .int .i64 0, .int .i64 0, .int .u64 0] 28)) := (Below.refl _ _).alloc (Nat.le_refl _) _
 have s0 := At.new w #[.int .i64 2, .int .u64 0, .int .u64 0, .int .i64 0, .int .i64 0, .int .i64 dg, .int .u64 li, .int .i64 0, .int .i64 0, .int .i64 0, .int .u64 0] 28
 clear hok
 go_enter Tryz.func25, Tryz.ntmps25
 go_wp2_with fail
 obtain ⟨W1, hW1⟩ : ∃ W, w.alloc (.cells #[.int .i64 2, .int .u64 0, .int .u64 0, .int .i64 0, .int .i64 0, .int .i64 dg, .int .u64 li, .int .i64 0, .int .i64 0, .int .i64 0, .int .u64 0] 28) = W := ⟨_, rfl⟩
 obtain ⟨cb, hcb⟩ : ∃ r, w.heap.size = r := ⟨_, rfl⟩
 have HCB := Lib.hid hcb
 rw [hW1] at hba s0
 rw [hcb] at s0
 simp only [hW1, hcb]
 clear hW1 hcb
 have hfar1 := fun x : Far W1 => (x.at s0).el
 refine wp_region_far (by kernel_rfl) (by kernel_rfl) ?_
 repeat (first | go_big_quiet_skip | (go_big_quiet_want; go_big_quiet_op; first | go_big_quiet_on | (apply Exists.intro; refine ⟨fun _ => ?_, ?_⟩; (focus (first | (with_reducible refine far_of (HBR.out _)))); go_big_quiet_on)))
 refine wpQuiet_nil ?_
 rintro _ ⟨xq, rfl⟩
 clear hfar1
 have hbf := xq.below
 obtain ⟨W2, hW2⟩ : ∃ W, xq.far = W := ⟨_, rfl⟩
 rw [hW2] at hbf ⊢
 have s2 := s0.below hbf
 have f2 := s2.el
 have l2 := s2.lt
 have HB2 := Lib.hid (keep1 hba hbf)
 clear hba hbf hW2 s0
 go_wp2_with fail
 refine (HFR.out W2 HB2.out).mono ?_
 rintro e w3 ⟨⟨hdg, hli, q, Q, rfl, hW, hL⟩ | ⟨f, hf, rfl⟩, hb⟩
 all_goals unfold coreHdr
 ·have HB3 := Lib.hid (keep1 HB2.out hb)
  have s3 := s2.below hb
  have f3 := s3.el
  have l3 := s3.lt
  have HLT : Hid (∀ j ∈ Q, j < w3.heap.size) := fun j hj => (hW j hj).2
  have hbe : Below w3.heap.size w3 (w3.alloc (.cells #[.int .i64 2, .int .u64 0, .int .u64 0, .int .i64 0, .int .i64 0, .int .i64 dg, .int .u64 li, .int .i64 0, .int .i64 0, .int .i64 0, .int .u64 0, coreHdr (some ⟨q, 0, none⟩)] 79)) := (Below.refl _ _).alloc (Nat.le_refl _) _
  have HE := Lib.hid hbe
  have HNB : Hid (w3.heap.size ∉ Q) := fun hm => by have := HLT.out _ hm; omega
  have HAT := Lib.hid (At.new w3 #[.int .i64 2, .int .u64 0, .int .u64 0, .int .i64 0, .int .i64 0, .int .i64 dg, .int .u64 li, .int .i64 0, .int .i64 0, .int .i64 0, .int .u64 0, coreHdr (some ⟨q, 0, none⟩)] 79)
  have HWI : Hid (Within (w3.heap.size :: Q) w.heap.size (w3.alloc (.cells #[.int .i64 2, .int .u64 0, .int .u64 0, .int .i64 0, .int .i64 0, .int .i64 dg, .int .u64 li, .int .i64 0, .int .i64 0, .int .i64 0, .int .u64 0, coreHdr (some ⟨q, 0, none⟩)] 79)).heap.size) := fun j hj => by
   rcases List.mem_cons.1 hj with rfl | hj
   ·exact ⟨HB3.out.size, HAT.out.lt⟩
   ·exact ⟨Nat.le_trans HB2.out.size (hW j hj).1, Nat.lt_of_lt_of_le (hW j hj).2 hbe.size⟩
  have HSK : Hid (SkV (w3.alloc (.cells #[.int .i64 2, .int .u64 0, .int .u64 0, .int .i64 0, .int .i64 0, .int .i64 dg, .int .u64 li, .int .i64 0, .int .i64 0, .int .i64 0, .int .u64 0, coreHdr (some ⟨q, 0, none⟩)] 79)) w3.heap.size (w3.heap.size :: Q) (Cfg.mk 2 0 0 0 0 dg li 0 0 0 0) []) := ⟨⟨rfl, HOK.out⟩, q, Q, rfl, HNB.out, .inr ⟨rfl, HAT.out, hdg, hli, fun v hv => by simp at hv, hL.below hbe⟩⟩
  have HFIN := Lib.hid (keep1 HB3.out hbe)
  clear hb hdg hli hW hL hbe s2 s3 f2 l2
  go_wp2
  go_ret2
  exact ⟨.inl ⟨_, _, rfl, HWI.out, HSK.out⟩, HFIN.out⟩
 ·have HF := Lib.hid hf
  have hfz : (f == 0) = false := beq_eq_false_iff_ne.2 hf
  have HB3 := Lib.hid (keep1 HB2.out hb)
  clear hb hf f2 l2 s2
  go_wp2
  go_ret2
  exact ⟨.inr ⟨f, HF.out, rfl⟩, HB3.out⟩
set_option maxRecDepth 100000 in
set_option maxHeartbeats 4000000 in
theorem sknew_hdr_no (pn pd sd mo dg li de fa wi wo : Int) (w : World) (h : ¬ (pn = 0 ∧ pd = 0 ∧ sd = 0 ∧ mo = 0 ∧ de = 0 ∧ fa = 0 ∧ wi = 0 ∧ wo = 0)) :
  Calls Tryz.prog 25 #[.agg #[.int .i64 2, .int .u64 pn, .int .u64 pd, .int .i64 sd, .int .i64 mo, .int .i64 dg, .int .u64 li, .int .i64 de, .int .i64 fa, .int .i64 wi, .int .u64 wo]] w fun e w' => e = .returned (.tuple #[.pointer none, .int .i64 1]) ∧ Below w.heap.size w w' := by
 have HBR : Hid (∀ W, Calls Tryz.prog 36 #[.agg #[.int .i64 2, .int .u64 pn, .int .u64 pd, .int .i64 sd, .int .i64 mo, .int .i64 dg, .int .u64 li, .int .i64 de, .int .i64 fa, .int .i64 wi, .int .u64 wo]] W fun e w' => e = .returned (.agg #[.int .i64 2, .int .u64 0, .int .u64 0, .int .i64 0, .int .i64 0, .int .i64 dg, .int .u64 li, .int .i64 0, .int .i64 0, .int .i64 0, .int .u64 0]) ∧ Below W.heap.size W w') := fun W => sbare_any (Cfg.mk 2 pn pd sd mo dg li de fa wi wo) W (.inr rfl)
 have hne := fun W => sconf_hdr 0 pn pd sd mo dg li de fa wi wo W h
 have hba : Below w.heap.size w (w.alloc (.cells #[.int .i64 2, .int .u64 pn, .int .u64 pd, .int .i64 sd, .int .i64 mo, .int .i64 dg, .int .u64 li, .int .i64 de, .int .i64 fa, .int .i64 wi, .int .u64 wo] 28)) := (Below.refl _ _).alloc (Nat.le_refl _) _
 have s0 := At.new w #[.int .i64 2, .int .u64 pn, .int .u64 pd, .int .i64 sd, .int .i64 mo, .int .i64 dg, .int .u64 li, .int .i64 de, .int .i64 fa, .int .i64 wi, .int .u64 wo] 28
 clear h
 go_enter Tryz.func25, Tryz.ntmps25
 go_wp2_with fail
 obtain ⟨W1, hW1⟩ : ∃ W, w.alloc (.cells #[.int .i64 2, .int .u64 pn, .int .u64 pd, .int .i64 sd, .int .i64 mo, .int .i64 dg, .int .u64 li, .int .i64 de, .int .i64 fa, .int .i64 wi, .int .u64 wo] 28) = W := ⟨_, rfl⟩
 obtain ⟨cb, hcb⟩ : ∃ r, w.heap.size = r := ⟨_, rfl⟩
 have HCB := Lib.hid hcb
 rw [hW1] at hba s0
 rw [hcb] at s0
 simp only [hW1, hcb]
 clear hW1 hcb
 have hfar1 := fun x : Far W1 => (x.at s0).el
 refine wp_region_far (by kernel_rfl) (by kernel_rfl) ?_
 repeat (first | go_big_quiet_skip | (go_big_quiet_want; go_big_quiet_op; first | go_big_quiet_on | (apply Exists.intro; refine ⟨fun _ => ?_, ?_⟩; (focus (first | (with_reducible refine far_of (HBR.out _)))); go_big_quiet_on)))
 refine wpQuiet_nil ?_
 rintro _ ⟨xq, rfl⟩
 clear hfar1
 have hbf := xq.below
 have HB2 := Lib.hid (keep1 hba hbf)
 clear hba hbf s0 hne
 go_wp2
 go_ret2
 exact ⟨rfl, HB2.out⟩
theorem sknew_any (c : Cfg) (w : World) (hT : TensAt w) (hok : c.Ok) (hk : c.kd = 1 ∨ c.kd = 2) :
  Calls Tryz.prog 25 #[c.val] w fun e w' => ((∃ b S, e = .returned (.tuple #[.pointer (some ⟨b, 0, none⟩), .int .i64 0]) ∧ Within S w.heap.size w'.heap.size ∧ SkV w' b S c []) ∨ (∃ f : Int, f ≠ 0 ∧ e = .returned (.tuple #[.pointer none, .int .i64 f]))) ∧ Below w.heap.size w w' := by
 obtain ⟨kd, pn, pd, sd, mo, dg, li, de, fa, wi, wo⟩ := c
 dsimp only at hk
 rcases hk with rfl | rfl
 ·by_cases h : dg = 0 ∧ li = 0 ∧ de = 0 ∧ fa = 0 ∧ wi = 0 ∧ wo = 0
  ·obtain ⟨rfl, rfl, rfl, rfl, rfl, rfl⟩ := h
   exact sknew_log pn pd sd mo w hok
  ·exact (sknew_log_no pn pd sd mo dg li de fa wi wo w h).mono fun e w' k => ⟨.inr ⟨1, by omega, k.1⟩, k.2⟩
 ·by_cases h : pn = 0 ∧ pd = 0 ∧ sd = 0 ∧ mo = 0 ∧ de = 0 ∧ fa = 0 ∧ wi = 0 ∧ wo = 0
  ·obtain ⟨rfl, rfl, rfl, rfl, rfl, rfl, rfl, rfl⟩ := h
   exact sknew_hdr dg li w hT hok
  ·exact (sknew_hdr_no pn pd sd mo dg li de fa wi wo w h).mono fun e w' k => ⟨.inr ⟨1, by omega, k.1⟩, k.2⟩
end Go.Proofs.YtlbnlmhcpephbaaGreatDoor

namespace Go.Proofs.YtlbnlmhcpephbaaGreatDoor
open Go.RowKit
def MethC (T : TypeId) (v : Value) (name : String) (f : FuncId) (r : Value) : Prop := (∀ w : World, (method 545 T v name).run Tryz.prog w = .ok (f, r) w) ∧ ∀ (args : Array Value) (w : World), (callFunc f args).run Tryz.prog w = .ok (.enter f args) w
theorem mlPut (q : Nat) : MethC 105 (.agg #[.pointer (some ⟨q, 0, none⟩)]) "Put" 181 (.pointer (some ⟨q, 0, none⟩)) := ⟨fun w => by kernel_rfl, fun a w => by kernel_rfl⟩
theorem mhPut (q : Nat) : MethC 112 (.agg #[.pointer (some ⟨q, 0, none⟩)]) "Put" 214 (.pointer (some ⟨q, 0, none⟩)) := ⟨fun w => by kernel_rfl, fun a w => by kernel_rfl⟩
theorem mlQuant (q : Nat) : MethC 105 (.agg #[.pointer (some ⟨q, 0, none⟩)]) "Quantile" 182 (.pointer (some ⟨q, 0, none⟩)) := ⟨fun w => by kernel_rfl, fun a w => by kernel_rfl⟩
theorem mhQuant (q : Nat) : MethC 112 (.agg #[.pointer (some ⟨q, 0, none⟩)]) "Quantile" 215 (.pointer (some ⟨q, 0, none⟩)) := ⟨fun w => by kernel_rfl, fun a w => by kernel_rfl⟩
theorem mlJoin (q : Nat) : MethC 105 (.agg #[.pointer (some ⟨q, 0, none⟩)]) "ogive/suite.join" 194 (.agg #[.pointer (some ⟨q, 0, none⟩)]) := ⟨fun w => by kernel_rfl, fun a w => by kernel_rfl⟩
theorem mhJoin (q : Nat) : MethC 112 (.agg #[.pointer (some ⟨q, 0, none⟩)]) "ogive/suite.join" 221 (.agg #[.pointer (some ⟨q, 0, none⟩)]) := ⟨fun w => by kernel_rfl, fun a w => by kernel_rfl⟩
theorem mlWrite (q : Nat) : MethC 105 (.agg #[.pointer (some ⟨q, 0, none⟩)]) "ogive/suite.write" 197 (.agg #[.pointer (some ⟨q, 0, none⟩)]) := ⟨fun w => by kernel_rfl, fun a w => by kernel_rfl⟩
theorem mhWrite (q : Nat) : MethC 112 (.agg #[.pointer (some ⟨q, 0, none⟩)]) "ogive/suite.write" 224 (.agg #[.pointer (some ⟨q, 0, none⟩)]) := ⟨fun w => by kernel_rfl, fun a w => by kernel_rfl⟩
theorem hvok {l : List (Int × Int)} (h : VOk l) : Hh.VOk l := ⟨h.ok, h.pos, h.sum⟩
def SkR (b : Nat) (S : List Nat) (c : Cfg) (l : List (Int × Int)) (w w' : World) : Prop := ∃ S', GrownS S S' w.heap.size ∧ SkV w' b S' c l ∧ Frame S w w'
theorem SkR.same {b : Nat} {S : List Nat} {c : Cfg} {l : List (Int × Int)} {w w' : World} (h : SkV w b S c l) (hb : Below w.heap.size w w') : SkR b S c l w w' := ⟨S, fun j hj => .inl hj, h.below hb, Frame.of_below hb⟩
theorem At.tw {w : World} {b : Nat} {T : TypeId} {v0 v1 v2 v3 v4 v5 v6 v7 v8 v9 v10 v11 : Value} (h : At w b #[v0, v1, v2, v3, v4, v5, v6, v7, v8, v9, v10, v11] T) :
  (w.cell? ⟨b, 0, none⟩ = some v0 ∧ w.cell? ⟨b, 1, none⟩ = some v1 ∧ w.cell? ⟨b, 2, none⟩ = some v2 ∧ w.cell? ⟨b, 3, none⟩ = some v3 ∧ w.cell? ⟨b, 4, none⟩ = some v4 ∧ w.cell? ⟨b, 5, none⟩ = some v5 ∧ w.cell? ⟨b, 6, none⟩ = some v6 ∧ w.cell? ⟨b, 7, none⟩ = some v7 ∧ w.cell? ⟨b, 8, none⟩ = some v8 ∧ w.cell? ⟨b, 9, none⟩ = some v9 ∧ w.cell? ⟨b, 10, none⟩ = some v10) ∧ w.cell? ⟨b, 11, none⟩ = some v11 :=
 ⟨⟨h.cell rfl, h.cell rfl, h.cell rfl, h.cell rfl, h.cell rfl, h.cell rfl, h.cell rfl, h.cell rfl, h.cell rfl, h.cell rfl, h.cell rfl⟩, h.cell rfl⟩
theorem grown_sk {b : Nat} {Q Q' : List Nat} {n : Nat} (hb : b ∉ Q) (hlt : b < n) (hg : GrownS Q Q' n) : b ∉ Q' ∧ GrownS (b :: Q) (b :: Q') n := by
 refine ⟨fun hm => ?_, fun j hj => ?_⟩
 ·rcases hg b hm with h | h
  ·exact hb h
  ·omega
 ·rcases List.mem_cons.1 hj with rfl | hj
  ·exact .inl (by simp)
  ·rcases hg j hj with h | h
   ·exact .inl (by simp [h])
   ·exact .inr h
theorem SkR.log {b q : Nat} {Q : List Nat} {c : Cfg} {l : List (Int × Int)} {w w' : World} {s : Bool} {part : Nat → Int} {rep stand : Int → Int} (hc : CfgOk c) (hb : b ∉ Q) (hk : c.kd = 1) (ha : At w b #[.int .i64 c.kd, .int .u64 c.pn, .int .u64 c.pd, .int .i64 c.sd, .int .i64 c.mo, .int .i64 c.dg, .int .u64 c.li, .int .i64 c.de, .int .i64 c.fa, .int .i64 c.wi, .int .u64 c.wo, coreLog (some ⟨q, 0, none⟩)] 79) (h1 : Cs c.pn c.pd 0 false part rep stand) (h2 : c.sd = sideZ s) (h3 : 1 ≤ c.mo ∧ c.mo ≤ 4096)
  (h : LpvR q Q part rep c.pn c.pd s c.mo l w w') : SkR b (b :: Q) c l w w' := by
 obtain ⟨Q', hg, hX, hF⟩ := h
 obtain ⟨n1, n2⟩ := grown_sk hb ha.lt hg
 exact ⟨b :: Q', n2, ⟨hc, q, Q', rfl, n1, .inl ⟨hk, hF.at ha hb, s, part, rep, stand, h1, h2, h3, hX⟩⟩, hF.mono fun j hj => by simp [hj]⟩
theorem SkR.hdr {b q : Nat} {Q : List Nat} {c : Cfg} {l : List (Int × Int)} {w w' : World} (hc : CfgOk c) (hb : b ∉ Q) (hk : c.kd = 2) (ha : At w b #[.int .i64 c.kd, .int .u64 c.pn, .int .u64 c.pd, .int .i64 c.sd, .int .i64 c.mo, .int .i64 c.dg, .int .u64 c.li, .int .i64 c.de, .int .i64 c.fa, .int .i64 c.wi, .int .u64 c.wo, coreHdr (some ⟨q, 0, none⟩)] 79) (h1 : 1 ≤ c.dg ∧ c.dg ≤ 4) (h2 : c.li ≤ 9223372036854775808) (h3 : ∀ v ∈ l, inLim c v.1)
  (h : Hh.HpvR q Q c.dg c.li l w w') : SkR b (b :: Q) c l w w' := by
 obtain ⟨Q', hg, hX, hF⟩ := h
 obtain ⟨n1, n2⟩ := grown_sk hb ha.lt hg
 exact ⟨b :: Q', n2, ⟨hc, q, Q', rfl, n1, .inr ⟨hk, hF.at ha hb, h1, h2, h3, hX⟩⟩, hF.mono fun j hj => by simp [hj]⟩
set_option maxRecDepth 100000 in
set_option maxHeartbeats 4000000 in
theorem sput_any (b : Nat) (S : List Nat) (c : Cfg) (l : List (Int × Int)) (x n : Int) (w : World) (h : SkV w b S c l) (hv : VOk l) (hx : -9223372036854775808 ≤ x ∧ x ≤ 9223372036854775807) (hn : 0 ≤ n ∧ n ≤ 1000000) (hs : sumP l + n ≤ 9223372036854775807) (hlen : l.length < 4096) :
  Calls Tryz.prog 26 #[.pointer (some ⟨b, 0, none⟩), .int .i64 x, .int .u64 n] w fun e w' => ∃ f, e = .returned (.int .i64 f) ∧ ((f = 0 ∧ 0 < n ∧ SkR b S c (l ++ [(x, n)]) w w') ∨ (f ≠ 0 ∧ SkR b S c l w w')) := by
 have HSK := Lib.hid h
 have HV := Lib.hid hv
 have HX := Lib.hid hx
 have HN := Lib.hid (And.intro hn hs)
 have HLN := Lib.hid hlen
 obtain ⟨hc, q, Q, rfl, hb, h⟩ := h
 have HC := Lib.hid hc
 have HB := Lib.hid hb
 rcases h with ⟨k, ha, s, part, rep, stand, h1, h2, h3, h4⟩ | ⟨k, ha, h1, h2, h3, h4⟩
 ·have HD := Lib.hid (And.intro k (And.intro ha (And.intro h1 (And.intro h2 h3))))
  have H4 := Lib.hid h4
  have f1 := ha.tw
  have l1 := ha.lt
  obtain ⟨m1, m2⟩ := mlPut q
  unfold coreLog at f1
  have HRL := Lib.hid fun l' w' (hL : LpvR q Q part rep c.pn c.pd s c.mo l' w w') => SkR.log hc hb k ha h1 h2 h3 hL
  clear k ha h1 h2 h3 h4 hc hb hv hx hn hs hlen
  go_enter Tryz.func26, Tryz.ntmps26
  go_wp2_with fail
  by_cases hz : n = 0
  ·subst hz
   refine (lsput_zero q Q part rep c.pn c.pd s c.mo x l w H4.out HV.out).mono ?_
   rintro e w1 ⟨rfl, hL⟩
   have HR := Lib.hid (HRL.out _ _ hL)
   clear hL HRL m1 m2 f1 l1
   go_wp2
   go_ret
   exact ⟨1, rfl, .inr ⟨by omega, HR.out⟩⟩
  ·have hz' : 0 < n := by have := HN.out.1.1; omega
   have HZ := Lib.hid hz'
   refine (lsput_v q Q part rep c.pn c.pd s c.mo x n l w H4.out HV.out HX.out hz' HN.out.2).mono ?_
   rintro e w1 ⟨rfl, hL⟩
   have HR := Lib.hid (HRL.out _ _ hL)
   clear hL HRL m1 m2 f1 l1 hz hz'
   go_wp2
   go_ret
   exact ⟨0, rfl, .inl ⟨rfl, HZ.out, HR.out⟩⟩
 ·have HD := Lib.hid (And.intro k h3)
  have H4 := Lib.hid h4
  have HA2 := Lib.hid (And.intro h1 h2)
  have HRL := Lib.hid fun l' w' (h3 : ∀ v ∈ l', inLim c v.1) (hL : Hh.HpvR q Q c.dg c.li l' w w') => SkR.hdr hc hb k ha h1 h2 h3 hL
  have f1 := ha.tw
  have l1 := ha.lt
  obtain ⟨m1, m2⟩ := mhPut q
  unfold coreHdr at f1
  clear k ha h1 h2 h3 h4 hc hb hv hx hn hs hlen
  go_enter Tryz.func26, Tryz.ntmps26
  go_wp2_with fail
  by_cases hz : n = 0
  ·subst hz
   refine (Hh.hput_zero q x w).mono ?_
   rintro e w1 ⟨rfl, hw⟩
   have HR : Hid (SkR b (b :: Q) c l w w1) := by rw [← hw]; exact SkR.same HSK.out (Below.refl _ _)
   clear hw HRL m1 m2 f1 l1
   go_wp2
   go_ret
   exact ⟨1, rfl, .inr ⟨by omega, HR.out⟩⟩
  ·have hz' : 0 < n := by have := HN.out.1.1; omega
   have HZ := Lib.hid hz'
   by_cases hin : inLim c x
   ·have HI : Hid (∀ v ∈ l ++ [(x, n)], inLim c v.1) := fun v hv => by
     rcases List.mem_append.1 hv with h | h
     ·exact HD.out.2 v h
     ·rw [List.mem_singleton] at h; subst h; exact hin
    refine (Hh.hput_v q Q c.dg c.li x n l w H4.out (hvok HV.out) HX.out hz' HN.out.2 (hin HD.out.1) HLN.out).mono ?_
    rintro e w1 ⟨rfl, hL⟩
    have HR := Lib.hid (HRL.out _ _ HI.out hL)
    clear hL HRL m1 m2 f1 l1 hz hz' hin
    go_wp2
    go_ret
    exact ⟨0, rfl, .inl ⟨rfl, HZ.out, HR.out⟩⟩
   ·have ho : 0 < c.li ∧ c.li < (x.natAbs : Int) := by
     have hl0 : 0 ≤ c.li := HSK.out.1.ok.li.1
     by_cases h1 : 0 < c.li ∧ c.li < (x.natAbs : Int)
     ·exact h1
     ·exact absurd (fun _ => by omega) hin
    refine (Hh.hput_vrange q Q c.dg c.li x n l w H4.out HX.out hz' ho.1 ho.2).mono ?_
    rintro e w1 ⟨rfl, hb⟩
    have HR := Lib.hid (SkR.same HSK.out hb)
    clear hb HRL m1 m2 f1 l1 hz hz' hin ho
    go_wp2
    go_ret
    exact ⟨7, rfl, .inr ⟨by omega, HR.out⟩⟩
end Go.Proofs.YtlbnlmhcpephbaaGreatDoor

namespace Go.Proofs.YtlbnlmhcpephbaaGreatDoor
open Go.RowKit
def QuantR (c : Cfg) (l : List (Int × Int)) (p0 p1 x f : Int) : Prop :=
 (c.kd = 1 → ∀ part rep stand s, Cs c.pn c.pd 0 false part rep stand → c.sd = sideZ s → (x, f) = quantL part stand s c.mo l (eLow l) (eHigh l) p0 p1) ∧
 (c.kd = 2 → x = quantD (standV (repM (gOf c.dg))) l p0 p1 ∧ f = placeE p0 p1 (sumP l))
def QW (b pb : Nat) (cs cs' : Array Value) (W : World) : Prop := At W b cs 79 ∧ At W pb cs' 25
set_option maxRecDepth 100000 in
set_option maxHeartbeats 4000000 in
theorem squant_any (b : Nat) (S : List Nat) (c : Cfg) (l : List (Int × Int)) (p0 p1 : Int) (w : World) (h : SkV w b S c l) (hv : VOk l) (hp : (0 ≤ p0 ∧ p0 < 18446744073709551616) ∧ (0 ≤ p1 ∧ p1 < 18446744073709551616)) :
  Calls Tryz.prog 14 #[.pointer (some ⟨b, 0, none⟩), .agg #[.int .u64 p0, .int .u64 p1]] w fun e w' => ∃ x f, e = .returned (.tuple #[.int .i64 x, .int .i64 f]) ∧ QuantR c l p0 p1 x f ∧ Below w.heap.size w w' := by
 obtain ⟨hc, q, Q, rfl, hb, h⟩ := h
 have hba : Below w.heap.size w (w.alloc (.cells #[.int .u64 p0, .int .u64 p1] 25)) := (Below.refl _ _).alloc (Nat.le_refl _) _
 have ap := At.new w #[.int .u64 p0, .int .u64 p1] 25
 have HX : Hid (∃ fn T x f, MethC T (.agg #[.pointer (some ⟨q, 0, none⟩)]) "Quantile" fn (.pointer (some ⟨q, 0, none⟩)) ∧ (∃ k0 k1 k2 k3 k4 k5 k6 k7 k8 k9 k10, At w b #[k0, k1, k2, k3, k4, k5, k6, k7, k8, k9, k10, .iface T (.agg #[.pointer (some ⟨q, 0, none⟩)])] 79) ∧ QuantR c l p0 p1 x f ∧
   ∀ W, Below w.heap.size w W → Calls Tryz.prog fn #[.pointer (some ⟨q, 0, none⟩), .agg #[.int .u64 p0, .int .u64 p1]] W fun e w' => e = .returned (.tuple #[.int .i64 x, .int .i64 f]) ∧ Below W.heap.size W w') := by
  rcases h with ⟨k, ha, s, part, rep, stand, h1, h2, h3, h4⟩ | ⟨k, ha, h1, h2, h3, h4⟩
  ·refine ⟨_, _, _, _, mlQuant q, ⟨_, _, _, _, _, _, _, _, _, _, _, ha⟩, ⟨fun _ part' rep' stand' s' hc' hs' => ?_, fun k2 => absurd (k.symm.trans k2) (by decide)⟩, fun W hW => lsquant_k q Q part rep stand c.pn c.pd s c.mo l (eLow l) (eHigh l) p0 p1 W (Ls.below h4 hW) h1.ps hv hp.1.1 hp.1.2 hp.2.1 hp.2.2⟩
   obtain ⟨_, rfl, rfl, rfl⟩ := Cs.one h1 hc'
   obtain rfl : s = s' := by rw [h2] at hs'; cases s <;> cases s' <;> simp [sideZ] at hs' ⊢
   rfl
  ·exact ⟨_, _, _, _, mhQuant q, ⟨_, _, _, _, _, _, _, _, _, _, _, ha⟩, ⟨fun k2 => absurd (k.symm.trans k2) (by decide), fun _ => ⟨rfl, rfl⟩⟩, fun W hW => Hh.hquant_v q Q c.dg c.li l p0 p1 W (h4.below hW) (hvok hv) hp.1.1 hp.1.2 hp.2.1 hp.2.2⟩
 clear h hv hp hc hb
 obtain ⟨fn, T, x, f, ⟨m1, m2⟩, ⟨k0, k1, k2, k3, k4, k5, k6, k7, k8, k9, k10, ha⟩, hQ, hC⟩ := HX.out
 have HQ := Lib.hid hQ
 have HCQ := Lib.hid hC
 have ha1 := ha.below hba
 have l1 := ha1.lt
 clear hQ hC ha HX
 go_enter Tryz.func14, Tryz.ntmps14
 go_wp2_with fail
 obtain ⟨W1, hW1⟩ : ∃ W, w.alloc (.cells #[.int .u64 p0, .int .u64 p1] 25) = W := ⟨_, rfl⟩
 obtain ⟨pb, hpb⟩ : ∃ r, w.heap.size = r := ⟨_, rfl⟩
 have HPB := Lib.hid hpb
 rw [hW1] at hba ha1 ap l1
 rw [hpb] at ap
 simp only [hW1, hpb]
 have HBA := Lib.hid hba
 clear hW1 hpb hba
 have hfar1 := fun x : Far W1 => (x.at ha1).tw
 have hfar2 := fun x : Far W1 => (x.at ap).two
 refine wp_region_far (by kernel_rfl) (by kernel_rfl) ?_
 repeat (first | go_big_quiet_skip | (go_big_quiet_want; go_big_quiet_op; first | go_big_quiet_on | (apply Exists.intro; refine ⟨fun _ => ?_, ?_⟩; (focus (first | (with_reducible refine far_of (HCQ.out _ (keep1 HBA.out (Far.below _)))))); go_big_quiet_on)))
 refine wpQuiet_nil ?_
 rintro _ ⟨xq, rfl⟩
 clear hfar1 hfar2
 have HFIN := Lib.hid (keep1 HBA.out xq.below)
 clear ap ha1 l1 m1 m2
 go_wp2
 go_ret2
 exact ⟨x, f, rfl, HQ.out, HFIN.out⟩
end Go.Proofs.YtlbnlmhcpephbaaGreatDoor

namespace Go.Proofs.YtlbnlmhcpephbaaGreatDoor
open Go.RowKit
def JcWlog (g q : Nat) (W : World) : Prop := At W g #[.pointer (some ⟨q, 0, none⟩)] 105
theorem JcWlog.at {g q : Nat} {W : World} (h : JcWlog g q W) : At W g #[.pointer (some ⟨q, 0, none⟩)] 105 := h
set_option maxRecDepth 100000 in
set_option maxHeartbeats 4000000 in
theorem sjoin_log (q r : Nat) (F : List Nat) (R : World → World → Prop) (w : World) (hF : ∀ j ∈ F, j < w.heap.size)
  (hJ : ∀ W, Below w.heap.size w W → Calls Tryz.prog 198 #[.pointer (some ⟨q, 0, none⟩), .pointer (some ⟨r, 0, none⟩)] W fun e w' => e = .returned (.int .i64 0) ∧ Frame F W w' ∧ R W w') :
  Calls Tryz.prog 194 #[.agg #[.pointer (some ⟨q, 0, none⟩)], .iface 105 (.agg #[.pointer (some ⟨r, 0, none⟩)])] w fun e w' => e = .returned (.int .i64 0) ∧ ∃ W, Below w.heap.size w W ∧ Frame F W w' ∧ R W w' := by
 have hba : Below w.heap.size w (w.alloc (.cells #[.pointer (some ⟨q, 0, none⟩)] 105)) := (Below.refl _ _).alloc (Nat.le_refl _) _
 have a1 := At.new w #[.pointer (some ⟨q, 0, none⟩)] 105
 have hta : ∀ W : World, (Instr.typeAssert (.iface 105 (.agg #[.pointer (some ⟨r, 0, none⟩)])) 77 105 false).run Tryz.prog W = .ok (.agg #[.pointer (some ⟨r, 0, none⟩)]) W := fun W => by kernel_rfl
 have HJ := Lib.hid hJ
 have HF := Lib.hid hF
 clear hJ hF
 go_enter Tryz.func194, Tryz.ntmps194
 go_wp2
 obtain ⟨W1, hW1⟩ : ∃ W, w.alloc (.cells #[.pointer (some ⟨q, 0, none⟩)] 105) = W := ⟨_, rfl⟩
 obtain ⟨g, hg⟩ : ∃ r, w.heap.size = r := ⟨_, rfl⟩
 have HG := Lib.hid hg
 rw [hW1] at hba a1
 rw [hg] at a1
 simp only [hW1, hg]
 clear hW1 hg
 have hbd : Below W1.heap.size W1 W1.drew := (Below.refl _ _).drew
 obtain ⟨W4, hW4⟩ : ∃ W, W1.drew = W := ⟨_, rfl⟩
 rw [hW4] at hbd
 have hK4 : JcWlog g q W4 := a1.below hbd
 have HB4 := Lib.hid (keep1 hba hbd)
 haveI hne : Nonempty (Held (JcWlog g q)) := ⟨⟨W4, hK4⟩⟩
 have hfar1 := fun v : Held (JcWlog g q) => v.held.at.one
 refine wp_region_noPanic ?_
 refine wp_region_held_drew (S := HeldS (JcWlog g q)) (by kernel_rfl) (by rw [hW4]; exact HeldS.mk' hK4) (fun hHeld => ?_)
 rw [hW4] at hHeld ⊢
 have HK4 := Lib.hid hK4
 clear hW4 hK4 hbd hba a1
 refine wpAnyH_run0 [true, true, true] 4 (by kernel_rfl) (by kernel_rfl) (fun _ _ _ _ h => h) (by kernel_rfl) hHeld ?_
 simp only [runOps_true, runOps_false, runOps_nil]
 repeat (first | go_big_quiet_skip | (go_big_quiet_want; go_big_quiet_op; go_big_quiet_on))
 refine wpQuiet_nil ?_
 refine wpAnyH_ready (rs := [3]) (by kernel_rfl) (by simp) ?_
 refine AllReadyH.cons rfl (fun K hK => ?_) (AllReadyH.nil)
 go_simp
 refine hK.out _ _ (HeldS.mk' HK4.out) (fun hHeld => ?_)
 clear hK K
 refine wpAnyH_ready (rs := [4]) (by kernel_rfl) (by simp) ?_
 refine AllReadyH.cons rfl (fun K hK => ?_) (AllReadyH.nil)
 go_simp
 refine hK.out _ _ (HeldS.mk' HK4.out) (fun hHeld => ?_)
 clear hK K
 clear hfar1 hta
 refine wpAnyH_ready (rs := [5]) (by kernel_rfl) (by simp) ?_
 refine AllReadyH.cons rfl (fun K hK => ?_) AllReadyH.nil
 go_simp
 go_wp2_with (go_at_call 198; refine (HJ.out W4 HB4.out).mono ?_; rintro e w5 ⟨rfl, hFr, hR⟩)
 refine hK.out _ _ ?_ (fun hHeld => ?_)
 clear hK K
 ·exact HeldS.mk' (hFr.at HK4.out fun hm => by have := HF.out _ hm; have := HG.out; omega)
 have HFR := Lib.hid (And.intro hFr hR)
 clear hFr hR
 refine wpAnyH_run0 [false, false, false, false, false, false, true] 0 (by kernel_rfl) (by kernel_rfl) (fun _ _ _ _ h => h) (by kernel_rfl) hHeld ?_
 simp only [runOps_true, runOps_false, runOps_nil]
 repeat (first | go_big_quiet_skip | (go_big_quiet_want; go_big_quiet_op; go_big_quiet_on))
 refine wpQuiet_nil ?_
 refine wpAnyH_done (by kernel_rfl) ?_ _
 refine NoPanic.normal ?_
 clear hne hHeld
 go_wp2
 go_ret
 exact ⟨rfl, W4, HB4.out, HFR.out⟩
def JcWhdr (g q : Nat) (W : World) : Prop := At W g #[.pointer (some ⟨q, 0, none⟩)] 112
theorem JcWhdr.at {g q : Nat} {W : World} (h : JcWhdr g q W) : At W g #[.pointer (some ⟨q, 0, none⟩)] 112 := h
set_option maxRecDepth 100000 in
set_option maxHeartbeats 4000000 in
theorem sjoin_hdr (q r : Nat) (F : List Nat) (R : World → World → Prop) (w : World) (hF : ∀ j ∈ F, j < w.heap.size)
  (hJ : ∀ W, Below w.heap.size w W → Calls Tryz.prog 225 #[.pointer (some ⟨q, 0, none⟩), .pointer (some ⟨r, 0, none⟩)] W fun e w' => e = .returned (.int .i64 0) ∧ Frame F W w' ∧ R W w') :
  Calls Tryz.prog 221 #[.agg #[.pointer (some ⟨q, 0, none⟩)], .iface 112 (.agg #[.pointer (some ⟨r, 0, none⟩)])] w fun e w' => e = .returned (.int .i64 0) ∧ ∃ W, Below w.heap.size w W ∧ Frame F W w' ∧ R W w' := by
 have hba : Below w.heap.size w (w.alloc (.cells #[.pointer (some ⟨q, 0, none⟩)] 112)) := (Below.refl _ _).alloc (Nat.le_refl _) _
 have a1 := At.new w #[.pointer (some ⟨q, 0, none⟩)] 112
 have hta : ∀ W : World, (Instr.typeAssert (.iface 112 (.agg #[.pointer (some ⟨r, 0, none⟩)])) 77 112 false).run Tryz.prog W = .ok (.agg #[.pointer (some ⟨r, 0, none⟩)]) W := fun W => by kernel_rfl
 have HJ := Lib.hid hJ
 have HF := Lib.hid hF
 clear hJ hF
 go_enter Tryz.func221, Tryz.ntmps221
 go_wp2
 obtain ⟨W1, hW1⟩ : ∃ W, w.alloc (.cells #[.pointer (some ⟨q, 0, none⟩)] 112) = W := ⟨_, rfl⟩
 obtain ⟨g, hg⟩ : ∃ r, w.heap.size = r := ⟨_, rfl⟩
 have HG := Lib.hid hg
 rw [hW1] at hba a1
 rw [hg] at a1
 simp only [hW1, hg]
 clear hW1 hg
 have hbd : Below W1.heap.size W1 W1.drew := (Below.refl _ _).drew
 obtain ⟨W4, hW4⟩ : ∃ W, W1.drew = W := ⟨_, rfl⟩
 rw [hW4] at hbd
 have hK4 : JcWhdr g q W4 := a1.below hbd
 have HB4 := Lib.hid (keep1 hba hbd)
 haveI hne : Nonempty (Held (JcWhdr g q)) := ⟨⟨W4, hK4⟩⟩
 have hfar1 := fun v : Held (JcWhdr g q) => v.held.at.one
 refine wp_region_noPanic ?_
 refine wp_region_held_drew (S := HeldS (JcWhdr g q)) (by kernel_rfl) (by rw [hW4]; exact HeldS.mk' hK4) (fun hHeld => ?_)
 rw [hW4] at hHeld ⊢
 have HK4 := Lib.hid hK4
 clear hW4 hK4 hbd hba a1
 refine wpAnyH_run0 [true, true, true] 4 (by kernel_rfl) (by kernel_rfl) (fun _ _ _ _ h => h) (by kernel_rfl) hHeld ?_
 simp only [runOps_true, runOps_false, runOps_nil]
 repeat (first | go_big_quiet_skip | (go_big_quiet_want; go_big_quiet_op; go_big_quiet_on))
 refine wpQuiet_nil ?_
 refine wpAnyH_ready (rs := [3]) (by kernel_rfl) (by simp) ?_
 refine AllReadyH.cons rfl (fun K hK => ?_) (AllReadyH.nil)
 go_simp
 refine hK.out _ _ (HeldS.mk' HK4.out) (fun hHeld => ?_)
 clear hK K
 refine wpAnyH_ready (rs := [4]) (by kernel_rfl) (by simp) ?_
 refine AllReadyH.cons rfl (fun K hK => ?_) (AllReadyH.nil)
 go_simp
 refine hK.out _ _ (HeldS.mk' HK4.out) (fun hHeld => ?_)
 clear hK K
 clear hfar1 hta
 refine wpAnyH_ready (rs := [5]) (by kernel_rfl) (by simp) ?_
 refine AllReadyH.cons rfl (fun K hK => ?_) AllReadyH.nil
 go_simp
 go_wp2_with (go_at_call 225; refine (HJ.out W4 HB4.out).mono ?_; rintro e w5 ⟨rfl, hFr, hR⟩)
 refine hK.out _ _ ?_ (fun hHeld => ?_)
 clear hK K
 ·exact HeldS.mk' (hFr.at HK4.out fun hm => by have := HF.out _ hm; have := HG.out; omega)
 have HFR := Lib.hid (And.intro hFr hR)
 clear hFr hR
 refine wpAnyH_run0 [false, false, false, false, false, false, true] 0 (by kernel_rfl) (by kernel_rfl) (fun _ _ _ _ h => h) (by kernel_rfl) hHeld ?_
 simp only [runOps_true, runOps_false, runOps_nil]
 repeat (first | go_big_quiet_skip | (go_big_quiet_want; go_big_quiet_op; go_big_quiet_on))
 refine wpQuiet_nil ?_
 refine wpAnyH_done (by kernel_rfl) ?_ _
 refine NoPanic.normal ?_
 clear hne hHeld
 go_wp2
 go_ret
 exact ⟨rfl, W4, HB4.out, HFR.out⟩
def JnS (b o : Nat) (cs cs' : Array Value) (W : World) : Prop := At W b cs 79 ∧ At W o cs' 79
theorem JnS.at {b o : Nat} {cs cs' : Array Value} {W : World} (h : JnS b o cs cs' W) : At W b cs 79 ∧ At W o cs' 79 := h
set_option maxRecDepth 100000 in
set_option maxHeartbeats 4000000 in
theorem sjoin_at_log (b o q r : Nat) (c : Cfg) (F : List Nat) (P : World → World → Prop) (w : World) (ha : At w b #[.int .i64 c.kd, .int .u64 c.pn, .int .u64 c.pd, .int .i64 c.sd, .int .i64 c.mo, .int .i64 c.dg, .int .u64 c.li, .int .i64 c.de, .int .i64 c.fa, .int .i64 c.wi, .int .u64 c.wo, .iface 105 (.agg #[.pointer (some ⟨q, 0, none⟩)])] 79) (ho : At w o #[.int .i64 c.kd, .int .u64 c.pn, .int .u64 c.pd, .int .i64 c.sd, .int .i64 c.mo, .int .i64 c.dg, .int .u64 c.li, .int .i64 c.de, .int .i64 c.fa, .int .i64 c.wi, .int .u64 c.wo, .iface 105 (.agg #[.pointer (some ⟨r, 0, none⟩)])] 79) (hbF : b ∉ F) (hoF : o ∉ F) (hF : ∀ j ∈ F, j < w.heap.size)
  (hJ : ∀ W, Below w.heap.size w W → Calls Tryz.prog 194 #[.agg #[.pointer (some ⟨q, 0, none⟩)], .iface 105 (.agg #[.pointer (some ⟨r, 0, none⟩)])] W fun e w' => e = .returned (.int .i64 0) ∧ ∃ W2, Below w.heap.size w W2 ∧ Frame F W2 w' ∧ P W2 w') :
  Calls Tryz.prog 28 #[.pointer (some ⟨b, 0, none⟩), .pointer (some ⟨o, 0, none⟩)] w fun e w' => e = .returned (.int .i64 0) ∧ ∃ W, Below w.heap.size w W ∧ Frame F W w' ∧ P W w' := by
 have f1 := ha.tw
 have l1 := ha.lt
 have f2 := ho.tw
 have l2 := ho.lt
 have HA := Lib.hid ha
 have HO := Lib.hid ho
 have HJ := Lib.hid hJ
 have HN := Lib.hid (And.intro hbF hoF)
 obtain ⟨m1, m2⟩ := mlJoin q
 have hkk : (c.kd == c.kd) = true := beq_self_eq_true c.kd
 clear hJ ha ho hbF hoF hF
 go_enter Tryz.func28, Tryz.ntmps28
 go_wp2
 go_quiet (fail)
 go_wp2
 have hbd : Below w.heap.size w (w.drewN nq).drew := ((Below.refl _ _).drewN nq).drew
 obtain ⟨W3, hW3⟩ : ∃ W, w.drewN nq = W := ⟨_, rfl⟩
 rw [hW3] at hbd
 simp only [hW3]
 clear hW3
 obtain ⟨W4, hW4⟩ : ∃ W, W3.drew = W := ⟨_, rfl⟩
 rw [hW4] at hbd
 have hK4 : JnS b o #[.int .i64 c.kd, .int .u64 c.pn, .int .u64 c.pd, .int .i64 c.sd, .int .i64 c.mo, .int .i64 c.dg, .int .u64 c.li, .int .i64 c.de, .int .i64 c.fa, .int .i64 c.wi, .int .u64 c.wo, .iface 105 (.agg #[.pointer (some ⟨q, 0, none⟩)])] #[.int .i64 c.kd, .int .u64 c.pn, .int .u64 c.pd, .int .i64 c.sd, .int .i64 c.mo, .int .i64 c.dg, .int .u64 c.li, .int .i64 c.de, .int .i64 c.fa, .int .i64 c.wi, .int .u64 c.wo, .iface 105 (.agg #[.pointer (some ⟨r, 0, none⟩)])] W4 := ⟨HA.out.below hbd, HO.out.below hbd⟩
 have HB4 := Lib.hid hbd
 haveI hne : Nonempty (Held (JnS b o #[.int .i64 c.kd, .int .u64 c.pn, .int .u64 c.pd, .int .i64 c.sd, .int .i64 c.mo, .int .i64 c.dg, .int .u64 c.li, .int .i64 c.de, .int .i64 c.fa, .int .i64 c.wi, .int .u64 c.wo, .iface 105 (.agg #[.pointer (some ⟨q, 0, none⟩)])] #[.int .i64 c.kd, .int .u64 c.pn, .int .u64 c.pd, .int .i64 c.sd, .int .i64 c.mo, .int .i64 c.dg, .int .u64 c.li, .int .i64 c.de, .int .i64 c.fa, .int .i64 c.wi, .int .u64 c.wo, .iface 105 (.agg #[.pointer (some ⟨r, 0, none⟩)])])) := ⟨⟨W4, hK4⟩⟩
 have hfar1 := fun v : Held (JnS b o #[.int .i64 c.kd, .int .u64 c.pn, .int .u64 c.pd, .int .i64 c.sd, .int .i64 c.mo, .int .i64 c.dg, .int .u64 c.li, .int .i64 c.de, .int .i64 c.fa, .int .i64 c.wi, .int .u64 c.wo, .iface 105 (.agg #[.pointer (some ⟨q, 0, none⟩)])] #[.int .i64 c.kd, .int .u64 c.pn, .int .u64 c.pd, .int .i64 c.sd, .int .i64 c.mo, .int .i64 c.dg, .int .u64 c.li, .int .i64 c.de, .int .i64 c.fa, .int .i64 c.wi, .int .u64 c.wo, .iface 105 (.agg #[.pointer (some ⟨r, 0, none⟩)])]) => v.held.at.1.tw
 have hfar2 := fun v : Held (JnS b o #[.int .i64 c.kd, .int .u64 c.pn, .int .u64 c.pd, .int .i64 c.sd, .int .i64 c.mo, .int .i64 c.dg, .int .u64 c.li, .int .i64 c.de, .int .i64 c.fa, .int .i64 c.wi, .int .u64 c.wo, .iface 105 (.agg #[.pointer (some ⟨q, 0, none⟩)])] #[.int .i64 c.kd, .int .u64 c.pn, .int .u64 c.pd, .int .i64 c.sd, .int .i64 c.mo, .int .i64 c.dg, .int .u64 c.li, .int .i64 c.de, .int .i64 c.fa, .int .i64 c.wi, .int .u64 c.wo, .iface 105 (.agg #[.pointer (some ⟨r, 0, none⟩)])]) => v.held.at.2.tw
 refine wp_region_noPanic ?_
 refine wp_region_held_drew (S := HeldS (JnS b o #[.int .i64 c.kd, .int .u64 c.pn, .int .u64 c.pd, .int .i64 c.sd, .int .i64 c.mo, .int .i64 c.dg, .int .u64 c.li, .int .i64 c.de, .int .i64 c.fa, .int .i64 c.wi, .int .u64 c.wo, .iface 105 (.agg #[.pointer (some ⟨q, 0, none⟩)])] #[.int .i64 c.kd, .int .u64 c.pn, .int .u64 c.pd, .int .i64 c.sd, .int .i64 c.mo, .int .i64 c.dg, .int .u64 c.li, .int .i64 c.de, .int .i64 c.fa, .int .i64 c.wi, .int .u64 c.wo, .iface 105 (.agg #[.pointer (some ⟨r, 0, none⟩)])])) (by kernel_rfl) (by rw [hW4]; exact HeldS.mk' hK4) (fun hHeld => ?_)
 rw [hW4] at hHeld ⊢
 have HK4 := Lib.hid hK4
 clear hW4 hK4 hbd f1 f2 l1 l2
 refine wpAnyH_run0 [true, true, true, true, true, true, true, true] 4 (by kernel_rfl) (by kernel_rfl) (fun _ _ _ _ h => h) (by kernel_rfl) hHeld ?_
 simp only [runOps_true, runOps_false, runOps_nil]
 repeat (first | go_big_quiet_skip | (go_big_quiet_want; go_big_quiet_op; go_big_quiet_on))
 refine wpQuiet_nil ?_
 refine wpAnyH_ready (rs := [8]) (by kernel_rfl) (by simp) ?_
 refine AllReadyH.cons rfl (fun K hK => ?_) (AllReadyH.nil)
 go_simp
 refine hK.out _ _ (HeldS.mk' HK4.out) (fun hHeld => ?_)
 clear hK K
 refine wpAnyH_run0 [false, false, false, false, false, false, false, false, false, true] 2 (by kernel_rfl) (by kernel_rfl) (fun _ _ _ _ h => h) (by kernel_rfl) hHeld ?_
 simp only [runOps_true, runOps_false, runOps_nil]
 repeat (first | go_big_quiet_skip | (go_big_quiet_want; go_big_quiet_op; go_big_quiet_on))
 refine wpQuiet_nil ?_
 clear hfar1 hfar2
 refine wpAnyH_ready (rs := [10]) (by kernel_rfl) (by simp) ?_
 refine AllReadyH.cons rfl (fun K hK => ?_) AllReadyH.nil
 go_simp
 go_wp2_with (go_at_call 194; refine (HJ.out W4 HB4.out).mono ?_; rintro e w5 ⟨rfl, W2, hB2, hFr, hR⟩)
 refine hK.out _ _ ?_ (fun hHeld => ?_)
 clear hK K
 ·exact HeldS.mk' ⟨hFr.at (HA.out.below hB2) HN.out.1, hFr.at (HO.out.below hB2) HN.out.2⟩
 have HR := Lib.hid (And.intro hB2 (And.intro hFr hR))
 clear hB2 hFr hR
 refine wpAnyH_run0 [false, false, false, false, false, false, false, false, false, false, false, true] 0 (by kernel_rfl) (by kernel_rfl) (fun _ _ _ _ h => h) (by kernel_rfl) hHeld ?_
 simp only [runOps_true, runOps_false, runOps_nil]
 repeat (first | go_big_quiet_skip | (go_big_quiet_want; go_big_quiet_op; go_big_quiet_on))
 refine wpQuiet_nil ?_
 refine wpAnyH_done (by kernel_rfl) ?_ _
 refine NoPanic.normal ?_
 clear hne hHeld m1 m2
 go_wp2
 go_ret
 exact ⟨rfl, W2, HR.out⟩
set_option maxRecDepth 100000 in
set_option maxHeartbeats 4000000 in
theorem sjoin_at_hdr (b o q r : Nat) (c : Cfg) (F : List Nat) (P : World → World → Prop) (w : World) (ha : At w b #[.int .i64 c.kd, .int .u64 c.pn, .int .u64 c.pd, .int .i64 c.sd, .int .i64 c.mo, .int .i64 c.dg, .int .u64 c.li, .int .i64 c.de, .int .i64 c.fa, .int .i64 c.wi, .int .u64 c.wo, .iface 112 (.agg #[.pointer (some ⟨q, 0, none⟩)])] 79) (ho : At w o #[.int .i64 c.kd, .int .u64 c.pn, .int .u64 c.pd, .int .i64 c.sd, .int .i64 c.mo, .int .i64 c.dg, .int .u64 c.li, .int .i64 c.de, .int .i64 c.fa, .int .i64 c.wi, .int .u64 c.wo, .iface 112 (.agg #[.pointer (some ⟨r, 0, none⟩)])] 79) (hbF : b ∉ F) (hoF : o ∉ F) (hF : ∀ j ∈ F, j < w.heap.size)
  (hJ : ∀ W, Below w.heap.size w W → Calls Tryz.prog 221 #[.agg #[.pointer (some ⟨q, 0, none⟩)], .iface 112 (.agg #[.pointer (some ⟨r, 0, none⟩)])] W fun e w' => e = .returned (.int .i64 0) ∧ ∃ W2, Below w.heap.size w W2 ∧ Frame F W2 w' ∧ P W2 w') :
  Calls Tryz.prog 28 #[.pointer (some ⟨b, 0, none⟩), .pointer (some ⟨o, 0, none⟩)] w fun e w' => e = .returned (.int .i64 0) ∧ ∃ W, Below w.heap.size w W ∧ Frame F W w' ∧ P W w' := by
 have f1 := ha.tw
 have l1 := ha.lt
 have f2 := ho.tw
 have l2 := ho.lt
 have HA := Lib.hid ha
 have HO := Lib.hid ho
 have HJ := Lib.hid hJ
 have HN := Lib.hid (And.intro hbF hoF)
 obtain ⟨m1, m2⟩ := mhJoin q
 have hkk : (c.kd == c.kd) = true := beq_self_eq_true c.kd
 clear hJ ha ho hbF hoF hF
 go_enter Tryz.func28, Tryz.ntmps28
 go_wp2
 go_quiet (fail)
 go_wp2
 have hbd : Below w.heap.size w (w.drewN nq).drew := ((Below.refl _ _).drewN nq).drew
 obtain ⟨W3, hW3⟩ : ∃ W, w.drewN nq = W := ⟨_, rfl⟩
 rw [hW3] at hbd
 simp only [hW3]
 clear hW3
 obtain ⟨W4, hW4⟩ : ∃ W, W3.drew = W := ⟨_, rfl⟩
 rw [hW4] at hbd
 have hK4 : JnS b o #[.int .i64 c.kd, .int .u64 c.pn, .int .u64 c.pd, .int .i64 c.sd, .int .i64 c.mo, .int .i64 c.dg, .int .u64 c.li, .int .i64 c.de, .int .i64 c.fa, .int .i64 c.wi, .int .u64 c.wo, .iface 112 (.agg #[.pointer (some ⟨q, 0, none⟩)])] #[.int .i64 c.kd, .int .u64 c.pn, .int .u64 c.pd, .int .i64 c.sd, .int .i64 c.mo, .int .i64 c.dg, .int .u64 c.li, .int .i64 c.de, .int .i64 c.fa, .int .i64 c.wi, .int .u64 c.wo, .iface 112 (.agg #[.pointer (some ⟨r, 0, none⟩)])] W4 := ⟨HA.out.below hbd, HO.out.below hbd⟩
 have HB4 := Lib.hid hbd
 haveI hne : Nonempty (Held (JnS b o #[.int .i64 c.kd, .int .u64 c.pn, .int .u64 c.pd, .int .i64 c.sd, .int .i64 c.mo, .int .i64 c.dg, .int .u64 c.li, .int .i64 c.de, .int .i64 c.fa, .int .i64 c.wi, .int .u64 c.wo, .iface 112 (.agg #[.pointer (some ⟨q, 0, none⟩)])] #[.int .i64 c.kd, .int .u64 c.pn, .int .u64 c.pd, .int .i64 c.sd, .int .i64 c.mo, .int .i64 c.dg, .int .u64 c.li, .int .i64 c.de, .int .i64 c.fa, .int .i64 c.wi, .int .u64 c.wo, .iface 112 (.agg #[.pointer (some ⟨r, 0, none⟩)])])) := ⟨⟨W4, hK4⟩⟩
 have hfar1 := fun v : Held (JnS b o #[.int .i64 c.kd, .int .u64 c.pn, .int .u64 c.pd, .int .i64 c.sd, .int .i64 c.mo, .int .i64 c.dg, .int .u64 c.li, .int .i64 c.de, .int .i64 c.fa, .int .i64 c.wi, .int .u64 c.wo, .iface 112 (.agg #[.pointer (some ⟨q, 0, none⟩)])] #[.int .i64 c.kd, .int .u64 c.pn, .int .u64 c.pd, .int .i64 c.sd, .int .i64 c.mo, .int .i64 c.dg, .int .u64 c.li, .int .i64 c.de, .int .i64 c.fa, .int .i64 c.wi, .int .u64 c.wo, .iface 112 (.agg #[.pointer (some ⟨r, 0, none⟩)])]) => v.held.at.1.tw
 have hfar2 := fun v : Held (JnS b o #[.int .i64 c.kd, .int .u64 c.pn, .int .u64 c.pd, .int .i64 c.sd, .int .i64 c.mo, .int .i64 c.dg, .int .u64 c.li, .int .i64 c.de, .int .i64 c.fa, .int .i64 c.wi, .int .u64 c.wo, .iface 112 (.agg #[.pointer (some ⟨q, 0, none⟩)])] #[.int .i64 c.kd, .int .u64 c.pn, .int .u64 c.pd, .int .i64 c.sd, .int .i64 c.mo, .int .i64 c.dg, .int .u64 c.li, .int .i64 c.de, .int .i64 c.fa, .int .i64 c.wi, .int .u64 c.wo, .iface 112 (.agg #[.pointer (some ⟨r, 0, none⟩)])]) => v.held.at.2.tw
 refine wp_region_noPanic ?_
 refine wp_region_held_drew (S := HeldS (JnS b o #[.int .i64 c.kd, .int .u64 c.pn, .int .u64 c.pd, .int .i64 c.sd, .int .i64 c.mo, .int .i64 c.dg, .int .u64 c.li, .int .i64 c.de, .int .i64 c.fa, .int .i64 c.wi, .int .u64 c.wo, .iface 112 (.agg #[.pointer (some ⟨q, 0, none⟩)])] #[.int .i64 c.kd, .int .u64 c.pn, .int .u64 c.pd, .int .i64 c.sd, .int .i64 c.mo, .int .i64 c.dg, .int .u64 c.li, .int .i64 c.de, .int .i64 c.fa, .int .i64 c.wi, .int .u64 c.wo, .iface 112 (.agg #[.pointer (some ⟨r, 0, none⟩)])])) (by kernel_rfl) (by rw [hW4]; exact HeldS.mk' hK4) (fun hHeld => ?_)
 rw [hW4] at hHeld ⊢
 have HK4 := Lib.hid hK4
 clear hW4 hK4 hbd f1 f2 l1 l2
 refine wpAnyH_run0 [true, true, true, true, true, true, true, true] 4 (by kernel_rfl) (by kernel_rfl) (fun _ _ _ _ h => h) (by kernel_rfl) hHeld ?_
 simp only [runOps_true, runOps_false, runOps_nil]
 repeat (first | go_big_quiet_skip | (go_big_quiet_want; go_big_quiet_op; go_big_quiet_on))
 refine wpQuiet_nil ?_
 refine wpAnyH_ready (rs := [8]) (by kernel_rfl) (by simp) ?_
 refine AllReadyH.cons rfl (fun K hK => ?_) (AllReadyH.nil)
 go_simp
 refine hK.out _ _ (HeldS.mk' HK4.out) (fun hHeld => ?_)
 clear hK K
 refine wpAnyH_run0 [false, false, false, false, false, false, false, false, false, true] 2 (by kernel_rfl) (by kernel_rfl) (fun _ _ _ _ h => h) (by kernel_rfl) hHeld ?_
 simp only [runOps_true, runOps_false, runOps_nil]
 repeat (first | go_big_quiet_skip | (go_big_quiet_want; go_big_quiet_op; go_big_quiet_on))
 refine wpQuiet_nil ?_
 clear hfar1 hfar2
 refine wpAnyH_ready (rs := [10]) (by kernel_rfl) (by simp) ?_
 refine AllReadyH.cons rfl (fun K hK => ?_) AllReadyH.nil
 go_simp
 go_wp2_with (go_at_call 221; refine (HJ.out W4 HB4.out).mono ?_; rintro e w5 ⟨rfl, W2, hB2, hFr, hR⟩)
 refine hK.out _ _ ?_ (fun hHeld => ?_)
 clear hK K
 ·exact HeldS.mk' ⟨hFr.at (HA.out.below hB2) HN.out.1, hFr.at (HO.out.below hB2) HN.out.2⟩
 have HR := Lib.hid (And.intro hB2 (And.intro hFr hR))
 clear hB2 hFr hR
 refine wpAnyH_run0 [false, false, false, false, false, false, false, false, false, false, false, true] 0 (by kernel_rfl) (by kernel_rfl) (fun _ _ _ _ h => h) (by kernel_rfl) hHeld ?_
 simp only [runOps_true, runOps_false, runOps_nil]
 repeat (first | go_big_quiet_skip | (go_big_quiet_want; go_big_quiet_op; go_big_quiet_on))
 refine wpQuiet_nil ?_
 refine wpAnyH_done (by kernel_rfl) ?_ _
 refine NoPanic.normal ?_
 clear hne hHeld m1 m2
 go_wp2
 go_ret
 exact ⟨rfl, W2, HR.out⟩
theorem sjoin_any (b o : Nat) (S T : List Nat) (c : Cfg) (l l' : List (Int × Int)) (w : World) (h : SkV w b S c l) (h' : SkV w o T c l') (ap : Apart S T) (hv : VOk l) (hv' : VOk l') (hs : sumP l + sumP l' ≤ 9223372036854775807) (hn : l.length + l'.length ≤ 4096) :
  Calls Tryz.prog 28 #[.pointer (some ⟨b, 0, none⟩), .pointer (some ⟨o, 0, none⟩)] w fun e w' => e = .returned (.int .i64 0) ∧ SkR b S c (l ++ l') w w' ∧ SkV w' o T c l' := by
 have hS := h.lt
 have H' := h'
 obtain ⟨hc, q, Q, rfl, hb, h⟩ := h
 obtain ⟨_, r, R, rfl, ho, h'⟩ := h'
 have hbo : b ∉ o :: R := ap b (by simp)
 have hapQ : Apart Q (o :: R) := fun j hj => ap j (by simp [hj])
 have hoQ : o ∉ Q := fun hm => hapQ o hm (by simp)
 have hapR : Apart Q R := fun j hj hm => hapQ j hj (by simp [hm])
 have hFS : ∀ j ∈ Q, j < w.heap.size := fun j hj => hS j (by simp [hj])
 have hTQ : Apart (o :: R) Q := hapQ.symm
 rcases h with ⟨k, ha, s, part, rep, stand, h1, h2, h3, h4⟩ | ⟨k, ha, h1, h2, h3, h4⟩
 ·rcases h' with ⟨k', ha', s', part', rep', stand', h1', h2', h3', h4'⟩ | ⟨k', _⟩
  ·obtain ⟨_, rfl, rfl, rfl⟩ := Cs.one h1 h1'
   obtain rfl : s = s' := by rw [h2] at h2'; cases s <;> cases s' <;> simp [sideZ] at h2' ⊢
   refine (sjoin_at_log b o q r c Q (fun W w' => LpvR q Q part rep c.pn c.pd s c.mo (l ++ l') W w') w ha ha' hb hoQ hFS fun W hW => sjoin_log q r Q (fun W w' => LpvR q Q part rep c.pn c.pd s c.mo (l ++ l') W w') W (fun j hj => Nat.lt_of_lt_of_le (hFS j hj) hW.size) (fun W2 hW2 => ?_) |>.mono fun e w' ⟨he, W2, hB, hF, hR⟩ => ⟨he, W2, keep1 hW hB, hF, hR⟩).mono ?_
   ·refine (lsjoin_v q r Q R part rep c.pn c.pd s c.mo l l' W2 (Ls.below (Ls.below h4 hW) hW2) (Ls.below (Ls.below h4' hW) hW2) hapR hv hv' hs).mono fun e w' ⟨he, hL, _⟩ => ⟨he, ?_, hL⟩
    obtain ⟨_, _, _, hF⟩ := hL
    exact hF
   ·rintro e w' ⟨he, W, hB, hF, hL⟩
    have hR := SkR.log hc hb k (ha.below hB) h1 h2 h3 hL
    refine ⟨he, ?_, (H'.below hB).frame hF hTQ⟩
    obtain ⟨S', hg, hX, hF2⟩ := hR
    exact ⟨S', fun j hj => (hg j hj).elim .inl fun h => .inr (Nat.le_trans hB.size h), hX, (Frame.of_below hB).trans hF2⟩
  ·omega
 ·rcases h' with ⟨k', _⟩ | ⟨k', ha', h1', h2', h3', h4'⟩
  ·omega
  ·have hin : ∀ v ∈ l ++ l', inLim c v.1 := fun v hv => (List.mem_append.1 hv).elim (h3 v) (h3' v)
   refine (sjoin_at_hdr b o q r c Q (fun W w' => Hh.HpvR q Q c.dg c.li (l ++ l') W w') w ha ha' hb hoQ hFS fun W hW => sjoin_hdr q r Q (fun W w' => Hh.HpvR q Q c.dg c.li (l ++ l') W w') W (fun j hj => Nat.lt_of_lt_of_le (hFS j hj) hW.size) (fun W2 hW2 => ?_) |>.mono fun e w' ⟨he, W2, hB, hF, hR⟩ => ⟨he, W2, keep1 hW hB, hF, hR⟩).mono ?_
   ·have g4 := (h4.below hW).below hW2
    have g4' := (h4'.below hW).below hW2
    by_cases h0 : l' = []
    ·subst h0
     refine (Hh.hjoin_empty q Q c.dg c.li l r R c.li W2 g4 g4').mono fun e w' ⟨he, hb⟩ => ⟨he, Frame.of_below hb, ?_⟩
     rw [List.append_nil]
     exact ⟨Q, fun j hj => .inl hj, g4.below hb, Frame.of_below hb⟩
    ·refine (Hh.hjoin_v q Q c.dg c.li l r R c.li l' W2 g4 g4' hapR.symm (hvok hv) (hvok hv') hs ?_ hn h0).mono fun e w' ⟨he, hL, _⟩ => ⟨he, ?_, hL⟩
     ·obtain ⟨⟨v, mv, ev⟩, ⟨v', mv', ev'⟩⟩ := eLow_mem h0
      have a1 := h3' v mv k
      have a2 := h3' v' mv' k
      rw [ev] at a1
      rw [ev'] at a2
      have hl0 : 0 ≤ c.li := hc.ok.li.1
      omega
     ·obtain ⟨_, _, _, hF⟩ := hL
      exact hF
   ·rintro e w' ⟨he, W, hB, hF, hL⟩
    have hR := SkR.hdr hc hb k (ha.below hB) h1 h2 hin hL
    refine ⟨he, ?_, (H'.below hB).frame hF hTQ⟩
    obtain ⟨S', hg, hX, hF2⟩ := hR
    exact ⟨S', fun j hj => (hg j hj).elim .inl fun h => .inr (Nat.le_trans hB.size h), hX, (Frame.of_below hB).trans hF2⟩
end Go.Proofs.YtlbnlmhcpephbaaGreatDoor
