/- Contract of package bins: Load. -/
import Derived.Test.YtplfiheejecjiaaGreatDoorProg
import Derived.Test.YtplfiheejecjiaaGreatDoorBnLoadI
namespace Go.Proofs.YtplfiheejecjiaaGreatDoor
open Go.RowKit

/-- The bins' block, and a pair's. -/
def LdP (b g : Nat) (cs : Array Value) (x y : Int) (W : World) : Prop := At W b cs 81 ∧ At W g #[.int .i64 x, .int .u64 y] 107
theorem LdP.far {b g : Nat} {cs : Array Value} {x y : Int} {W : World} (h : LdP b g cs x y W) : At W b cs 81 ∧ At W g #[.int .i64 x, .int .u64 y] 107 := h
/-- The bins' block, and a row and its lost ones. -/
def LdR (b rb lb kk : Nat) (cs : Array Value) (vr vl : Value) (W : World) : Prop := At W b cs 81 ∧ W.cell? ⟨rb, kk, none⟩ = some vr ∧ W.cell? ⟨lb, kk, none⟩ = some vl
theorem LdR.far {b rb lb kk : Nat} {cs : Array Value} {vr vl : Value} {W : World} (h : LdR b rb lb kk cs vr vl W) : At W b cs 81 ∧ W.cell? ⟨rb, kk, none⟩ = some vr ∧ W.cell? ⟨lb, kk, none⟩ = some vl := h
/-- The array of stores. -/
def LdT (sb : Nat) (v0 v1 : Value) (W : World) : Prop := At W sb #[v0, v1] 105
theorem LdT.far {sb : Nat} {v0 v1 : Value} {W : World} (h : LdT sb v0 v1 W) : At W sb #[v0, v1] 105 := h
theorem bload_nil (r0 r1 l0 l1 : Value) (zero : Int) (w : World) : Calls Tryz.prog 23 #[.pointer none, .agg #[r0, r1], .agg #[l0, l1], .int .u64 zero] w fun e w' => e = .returned (.int .i64 2) ∧ Below w.heap.size w w' := by
  go_enter Tryz.func23, Tryz.ntmps23
  have hb0 : Below w.heap.size w ((w.alloc (.cells #[r0, r1] 60)).alloc (.cells #[l0, l1] 61)) := ((Below.refl _ _).alloc (Nat.le_refl _) _).alloc (by first | omega | (simp; done) | (simp; omega) | (simp [World.setCell]; omega)) _
  go_wp2
  go_ret
  exact ⟨rfl, hb0⟩
/-- What a row's store is: what comes out of load. -/
theorem sload_v (s : Bool) (A : Option Addr) (len cap : Nat) (rs : List (Int × Int)) (most lost : Int) (w : World) (h1 : 1 ≤ most) (h2 : most ≤ 4096) (hl : rs.length = len) (hm : len ≤ 9223372036854775807) (hR : RdP w A rs) (hok : okP rs) (h3 : 0 ≤ lost) (h4 : lost < 18446744073709551616) :
    Calls Tryz.prog 48 #[.int .i64 (sideZ s), .int .i64 most, .slice A len cap, .int .u64 lost] w fun e w' => (∃ (v : Value) (cd : Int), e = .returned (.tuple #[v, .int .i64 cd]) ∧
      Hid ((SLoad s most rs lost ∧ cd = 0 ∧ ∃ d D, v = .iface (sKnd s).T (.pointer (some ⟨d, 0, none⟩)) ∧ Within D w.heap.size w'.heap.size ∧ Sto w' s d D most rs (sumP rs + lost)) ∨ (¬ SLoad s most rs lost ∧ cd = 1 ∧ v = .nilIface))) ∧ Below w.heap.size w w' :=
  (sload_any s A len cap rs most lost w h1 h2 hl hm hR hok h3 h4).mono fun e w' h => by
    rcases h with ⟨⟨hO, d, D, he, hW, hS⟩ | ⟨hO, he⟩, hb⟩
    · exact ⟨⟨_, 0, he, .inl ⟨hO, rfl, d, D, rfl, hW, hS⟩⟩, hb⟩
    · exact ⟨⟨_, 1, he, .inr ⟨hO, rfl, rfl⟩⟩, hb⟩
set_option maxRecDepth 100000 in
set_option maxHeartbeats 4000000 in
theorem bload_at (PB : List Nat) (b : Nat) (k : Bool) (pa : Nat) (part : Nat → Int) (rep : Int → Int) (s : Bool) (most : Int) (c0 c1 : Nat) (S0 S1 : List Nat) (ps0 ps1 : List (Int × Int)) (t0 t1 z0 : Int)
    (A0 : Option Addr) (n0 cp0 : Nat) (q0 : List (Int × Int)) (A1 : Option Addr) (n1 cp1 : Nat) (q1 : List (Int × Int)) (lo0 lo1 zero : Int) (w : World)
    (h : BnB PB w b k pa part rep s most c0 c1 S0 S1 ps0 ps1 t0 t1 z0) (k0 : q0.length = n0) (k1 : q1.length = n1) (m0 : n0 ≤ 9223372036854775807) (m1 : n1 ≤ 9223372036854775807) (R0 : RdP w A0 q0) (R1 : RdP w A1 q1) (o0 : okP q0) (o1 : okP q1)
    (hl0 : 0 ≤ lo0 ∧ lo0 < 18446744073709551616) (hl1 : 0 ≤ lo1 ∧ lo1 < 18446744073709551616) (hz : 0 ≤ zero ∧ zero < 18446744073709551616) :
    Calls Tryz.prog 23 #[.pointer (some ⟨b, 0, none⟩), .agg #[.slice A0 n0 cp0, .slice A1 n1 cp1], .agg #[.int .u64 lo0, .int .u64 lo1], .int .u64 zero] w fun e w' => BLoadR b (PB ++ (b :: (S0 ++ S1))) k part rep s most q0 q1 lo0 lo1 zero w e w' := by
  have HBN := Lib.hid h
  have HM := Lib.hid h.s0.m14
  have HROWS : Hid (∀ i < 2, ∃ A n c, (∀ W rb, At W rb #[.slice A0 n0 cp0, .slice A1 n1 cp1] 60 → W.cell? ⟨rb, i, none⟩ = some (.slice A n c)) ∧ (∀ W lb, At W lb #[.int .u64 lo0, .int .u64 lo1] 61 → W.cell? ⟨lb, i, none⟩ = some (.int .u64 (lostOf lo0 lo1 i))) ∧ n ≤ 9223372036854775807 ∧ Hid (RdP w A (rowOf q0 q1 i) ∧ okP (rowOf q0 q1 i) ∧ (rowOf q0 q1 i).length = n ∧ 0 ≤ lostOf lo0 lo1 i ∧ lostOf lo0 lo1 i < 18446744073709551616)) := fun i hi => by
    rcases (by omega : i = 0 ∨ i = 1) with rfl | rfl
    · exact ⟨A0, n0, cp0, fun W rb h => h.cell rfl, fun W lb h => h.cell rfl, m0, R0, o0, k0, hl0⟩
    · exact ⟨A1, n1, cp1, fun W rb h => h.cell rfl, fun W lb h => h.cell rfl, m1, R1, o1, k1, hl1⟩
  have HZ : Hid ((0 ≤ lo0 ∧ lo0 < 18446744073709551616) ∧ (0 ≤ lo1 ∧ lo1 < 18446744073709551616) ∧ (0 ≤ zero ∧ zero < 18446744073709551616)) := ⟨hl0, hl1, hz⟩
  have HLD := Lib.hid fun A len cap rs lost W hl hm hR hok h3 h4 => sload_v s A len cap rs most lost W HM.out.1 HM.out.2 hl hm hR hok h3 h4
  have HRP := Lib.hid fun W (hb : Below w.heap.size w W) => h.prt.rp W hb
  have p1 := (pRep k).1
  have p2 := (pRep k).2
  have u1 := (sTotal s).1
  have u2 := (sTotal s).2
  have HTT := Lib.hid fun c D ps t W => sto_total s c D most t ps W
  have s1 := h.at'
  obtain ⟨pT, hpT⟩ : ∃ z, (pKnd k).T = z := ⟨_, rfl⟩
  obtain ⟨pF, hpF⟩ : ∃ z, (pKnd k).fR = z := ⟨_, rfl⟩
  rw [hpT] at s1 p1
  rw [hpF] at p1 p2 HRP
  obtain ⟨sz, hsz⟩ : ∃ v : Value, .int .i64 (sideZ s) = v := ⟨_, rfl⟩
  rw [hsz] at s1 HLD
  have HSTO : Hid (∃ v3 v4 v5 : Value, At w b #[.iface pT (.pointer (some ⟨pa, 0, none⟩)), sz, .int .i64 most, v3, v4, v5] 81) := ⟨_, _, _, s1⟩
  clear s1
  obtain ⟨v3, v4, v5, s1⟩ := HSTO.out
  have HLTB : Hid (b < w.heap.size) := h.at'.lt
  clear h hpT hpF hsz k0 k1 m0 m1 R0 R1 o0 o1 hl0 hl1 hz HSTO
  go_enter Tryz.func23, Tryz.ntmps23
  have hb0 : Below w.heap.size w (((w.alloc (.cells #[.slice A0 n0 cp0, .slice A1 n1 cp1] 60)).alloc (.cells #[.int .u64 lo0, .int .u64 lo1] 61)).alloc (.cells #[.nilIface, .nilIface] 105)) := (((Below.refl _ _).alloc (Nat.le_refl _) _).alloc (by first | omega | (simp; done) | (simp; omega) | (simp [World.setCell]; omega)) _).alloc (by first | omega | (simp; done) | (simp; omega) | (simp [World.setCell]; omega)) _
  have aR := ((At.new w #[.slice A0 n0 cp0, .slice A1 n1 cp1] 60).alloc (.cells #[.int .u64 lo0, .int .u64 lo1] 61)).alloc (.cells #[.nilIface, .nilIface] 105)
  have aL := (At.new' (w.alloc (.cells #[.slice A0 n0 cp0, .slice A1 n1 cp1] 60)) #[.int .u64 lo0, .int .u64 lo1] 61 (b := w.heap.size + 1) (by simp)).alloc (.cells #[.nilIface, .nilIface] 105)
  have aS := At.new' ((w.alloc (.cells #[.slice A0 n0 cp0, .slice A1 n1 cp1] 60)).alloc (.cells #[.int .u64 lo0, .int .u64 lo1] 61)) #[.nilIface, .nilIface] 105 (b := w.heap.size + 2) (by simp)
  go_wp2
  generalize ((w.alloc (.cells #[.slice A0 n0 cp0, .slice A1 n1 cp1] 60)).alloc (.cells #[.int .u64 lo0, .int .u64 lo1] 61)).alloc (.cells #[.nilIface, .nilIface] 105) = W0 at hb0 aR aL aS ⊢
  have H1 : Hid (LdI w W0 W0 (w.heap.size + 2) s most rep q0 q1 lo0 lo1 0 .nilIface .nilIface) := LdI.start aS hb0 (by omega)
  have HAR := Lib.hid aR
  have HAL := Lib.hid aL
  have hnr : w.heap.size ∉ [w.heap.size + 2] := by simp
  have hnl : w.heap.size + 1 ∉ [w.heap.size + 2] := by simp
  have HNR := Lib.hid hnr
  have HNL := Lib.hid hnl
  have HS1 := Lib.hid s1
  clear aR aL aS hb0 hnr hnl s1
  go_loopw [10, 12, 13, 18, 25] (fun _ _ _ i _ wr => ∃ kk : Nat, kk ≤ 2 ∧ i = .int .i64 kk ∧ ∃ v0 v1, Hid (LdI w W0 wr (w.heap.size + 2) s most rep q0 q1 lo0 lo1 kk v0 v1)) (fun _ _ _ i _ _ => 2 - (intOf i).toNat)
  case atStart => exact ⟨0, by omega, rfl, _, _, H1⟩
  case round =>
    obtain ⟨kk, hkk, rfl, v0, v1, HI⟩ := hrel
    clear H1
    by_cases hlt : kk < 2
    · obtain ⟨A, len, cap, hcr, hcl, hlen, HX⟩ := HROWS.out kk hlt
      have kk0 : (0 : Int) ≤ kk := by omega
      have kk1 : (kk : Int) < 2 := by omega
      have hcr1 := hcr wr _ (HI.out.fr.at HAR.out HNR.out)
      have HCR := Lib.hid hcr
      have HCL := Lib.hid hcl
      clear hcr hcl
      go_wp2
      clear hcr1
      go_loopw [12, 25] (fun _ i wi => ∃ j : Nat, j ≤ len ∧ i = .int .i64 j ∧ Hid (LdI w W0 wi (w.heap.size + 2) s most rep q0 q1 lo0 lo1 kk v0 v1) ∧ Hid (∀ x ∈ (rowOf q0 q1 kk).take j, 0 ≤ x.1 ∧ rep x.1 ≠ 0)) (fun _ i _ => len - (intOf i).toNat)
      case atStart => exact ⟨0, by omega, rfl, HI, fun x hx => by simp at hx⟩
      case round =>
        obtain ⟨j, hj, rfl, HJ, HIN⟩ := hrel
        clear HI
        by_cases hjt : j < len
        · obtain ⟨g, o, rfl, hg, c1, c2⟩ := (HX.out.1.below HJ.out.bl).at j (by have := HX.out.2.2.1; omega)
          have HB := Lib.hid (HX.out.2.1.at j (by have := HX.out.2.2.1; omega))
          have HJL : Hid (j < (rowOf q0 q1 kk).length) := by have := HX.out.2.2.1; show _ < _; omega
          have HBAD : Hid (((rowOf q0 q1 kk)[j]'HJL.out).1 < 0 ∨ rep ((rowOf q0 q1 kk)[j]'HJL.out).1 = 0 → ¬ BLoad rep s most q0 q1 lo0 lo1 zero) := fun h k => RepOk.bad HJL.out h (k.row kk)
          have HST := Lib.hid fun h1 h2 => rep_step HJL.out HIN.out h1 h2
          obtain ⟨⟨x, y⟩, hx⟩ : ∃ x, (rowOf q0 q1 kk)[j]'HJL.out = x := ⟨_, rfl⟩
          rw [hx] at c1 c2 HB HBAD HST
          dsimp only at c1 c2 HB HBAD HST
          clear hx
          have hba : Below wr.heap.size wr (wr.alloc (.cells #[.int .i64 x, .int .u64 y] 107)).drew := ((Below.refl _ _).alloc (Nat.le_refl _) _).drew
          have aP := (At.new wr #[.int .i64 x, .int .u64 y] 107).drew
          have s4 := (HS1.out.below HJ.out.bl).below hba
          go_wp2
          obtain ⟨W4, hW4⟩ : ∃ W, (wr.alloc (.cells #[.int .i64 x, .int .u64 y] 107)).drew = W := ⟨_, rfl⟩
          obtain ⟨g2, hg2⟩ : ∃ g2, wr.heap.size = g2 := ⟨_, rfl⟩
          rw [hW4] at hba aP s4
          have H4 := Lib.hid (HJ.out.below hba)
          rw [hg2] at aP
          simp only [hg2]
          have hL4 : LdP b g2 #[.iface pT (.pointer (some ⟨pa, 0, none⟩)), sz, .int .i64 most, v3, v4, v5] x y W4 := ⟨s4, aP⟩
          have HL4 := Lib.hid hL4
          haveI hne : Nonempty (Held (LdP b g2 #[.iface pT (.pointer (some ⟨pa, 0, none⟩)), sz, .int .i64 most, v3, v4, v5] x y)) := ⟨⟨W4, hL4⟩⟩
          have hfar1 := fun v : Held (LdP b g2 #[.iface pT (.pointer (some ⟨pa, 0, none⟩)), sz, .int .i64 most, v3, v4, v5] x y) => v.held.far.1.six
          have hfar2 := fun v : Held (LdP b g2 #[.iface pT (.pointer (some ⟨pa, 0, none⟩)), sz, .int .i64 most, v3, v4, v5] x y) => v.held.far.2.two
          refine wp_region_noPanic ?_
          refine wp_region_held_drew (S := HeldS (LdP b g2 #[.iface pT (.pointer (some ⟨pa, 0, none⟩)), sz, .int .i64 most, v3, v4, v5] x y)) (by kernel_rfl) (by rw [hW4]; exact HeldS.mk' HL4.out) (fun hHeld => ?_)
          rw [hW4] at hHeld ⊢
          clear hW4 hg2 hba aP s4 hL4 c1 c2 hg HJ HIN HX
          by_cases hx0 : x < 0
          · have HBD := Lib.hid (HBAD.out (.inl hx0))
            have hd : decide (x < 0) = true := decide_eq_true hx0
            clear hx0 HBAD HST HB
            refine wpAnyH_run0 [true, true, true, true, true, true, true, true, true, true] 3 (by kernel_rfl) (by kernel_rfl) (fun _ _ _ _ h => h) (by kernel_rfl) hHeld ?_
            simp only [runOps_true, runOps_false, runOps_nil]
            repeat (first | go_big_quiet_skip | (go_big_quiet_want; go_big_quiet_op; go_big_quiet_on))
            refine wpQuiet_nil ?_
            refine wpAnyH_ready (rs := [10]) (by kernel_rfl) (by simp) ?_
            refine AllReadyH.cons rfl (fun K hK => ?_) AllReadyH.nil
            go_simp
            refine hK.out _ _ ?_ (fun hHeld => ?_)
            clear hK K
            · exact HeldS.mk' HL4.out
            refine wpAnyH_run0 [false, false, false, false, false, false, false, false, false, false, false, true, true] 0 (by kernel_rfl) (by kernel_rfl) (fun _ _ _ _ h => h) (by kernel_rfl) hHeld ?_
            simp only [runOps_true, runOps_false, runOps_nil]
            repeat (first | go_big_quiet_skip | (go_big_quiet_want; go_big_quiet_op; go_big_quiet_on))
            refine wpQuiet_nil ?_
            refine wpAnyH_done (by kernel_rfl) ?_ _
            refine NoPanic.normal ?_
            clear hfar1 hfar2 hHeld hd
            go_wp2
            go_ret
            exact BLoadR.bad HBD.out H4.out.bl
          · have hd : decide (x < 0) = false := decide_eq_false hx0
            have HX0 : Hid (0 ≤ x) := by show _ ≤ _; omega
            clear hx0
            refine wpAnyH_run0 [true, true, true, true, true, true, true, true, true, true] 3 (by kernel_rfl) (by kernel_rfl) (fun _ _ _ _ h => h) (by kernel_rfl) hHeld ?_
            simp only [runOps_true, runOps_false, runOps_nil]
            repeat (first | go_big_quiet_skip | (go_big_quiet_want; go_big_quiet_op; go_big_quiet_on))
            refine wpQuiet_nil ?_
            refine wpAnyH_ready (rs := [10]) (by kernel_rfl) (by simp) ?_
            refine AllReadyH.cons rfl (fun K hK => ?_) (AllReadyH.nil)
            go_simp
            go_wp2_with fail
            refine (HRP.out W4 H4.out.bl x HB.out.1.1 HB.out.1.2).mono ?_
            rintro e w5 ⟨rfl, hb⟩
            dsimp only
            refine hK.out _ _ (HeldS.mk' ⟨HL4.out.1.below hb, HL4.out.2.below hb⟩) (fun hHeld => ?_)
            clear hK K
            have H5 := Lib.hid (H4.out.below hb)
            clear hb H4 HL4
            obtain ⟨r, hr⟩ : ∃ r, rep x = r := ⟨_, rfl⟩
            rw [hr] at HBAD HST ⊢
            clear hr
            by_cases hr0 : r = 0
            · have HBD := Lib.hid (HBAD.out (.inr hr0))
              have hd2 : (r == 0) = true := beq_iff_eq.2 hr0
              clear hr0 HBAD HST HB
              refine wpAnyH_run0 [false, false, false, false, false, false, false, false, false, false, false, true, true] 0 (by kernel_rfl) (by kernel_rfl) (fun _ _ _ _ h => h) (by kernel_rfl) hHeld ?_
              simp only [runOps_true, runOps_false, runOps_nil]
              repeat (first | go_big_quiet_skip | (go_big_quiet_want; go_big_quiet_op; go_big_quiet_on))
              refine wpQuiet_nil ?_
              refine wpAnyH_done (by kernel_rfl) ?_ _
              refine NoPanic.normal ?_
              clear hfar1 hfar2 hHeld hd
              go_wp2
              go_ret
              exact BLoadR.bad HBD.out H5.out.bl
            · have HST2 := Lib.hid (HST.out HX0.out hr0)
              have hd2 : (r == 0) = false := beq_eq_false_iff_ne.2 hr0
              clear hr0 HBAD HST HB
              refine wpAnyH_run0 [false, false, false, false, false, false, false, false, false, false, false, true, true] 0 (by kernel_rfl) (by kernel_rfl) (fun _ _ _ _ h => h) (by kernel_rfl) hHeld ?_
              simp only [runOps_true, runOps_false, runOps_nil]
              repeat (first | go_big_quiet_skip | (go_big_quiet_want; go_big_quiet_op; go_big_quiet_on))
              refine wpQuiet_nil ?_
              refine wpAnyH_done (by kernel_rfl) ?_ _
              refine NoPanic.normal ?_
              clear hfar1 hfar2 hHeld hd
              go_wp2
              go_roundw
              case rel => exact ⟨j + 1, by omega, by simp, H5, HST2.out⟩
              case measure => simp [intOf]; omega
        · obtain rfl : j = len := by omega
          have HOKR : Hid (RepOk rep (rowOf q0 q1 kk)) := by
            have h := HIN.out
            rwa [List.take_of_length_le (by have := HX.out.2.2.1; omega)] at h
          have H4 : Hid (LdI w W0 wr.drew (w.heap.size + 2) s most rep q0 q1 lo0 lo1 kk v0 v1) := HJ.out.below (Below.refl _ _).drew
          clear HIN HJ
          go_wp2
          obtain ⟨W4, hW4⟩ : ∃ W, wr.drew = W := ⟨_, rfl⟩
          rw [hW4] at H4
          have hL4 : LdR b w.heap.size (w.heap.size + 1) kk #[.iface pT (.pointer (some ⟨pa, 0, none⟩)), sz, .int .i64 most, v3, v4, v5] (.slice A j cap) (.int .u64 (lostOf lo0 lo1 kk)) W4 :=
            ⟨HS1.out.below H4.out.bl, HCR.out W4 _ (H4.out.fr.at HAR.out HNR.out), HCL.out W4 _ (H4.out.fr.at HAL.out HNL.out)⟩
          have HLDK := Lib.hid (HLD.out A j cap (rowOf q0 q1 kk) (lostOf lo0 lo1 kk) W4 HX.out.2.2.1 hlen (HX.out.1.below H4.out.bl) HX.out.2.1 HX.out.2.2.2.1 HX.out.2.2.2.2)
          have HL5 : Hid (∀ W, Below W4.heap.size W4 W → LdR b w.heap.size (w.heap.size + 1) kk #[.iface pT (.pointer (some ⟨pa, 0, none⟩)), sz, .int .i64 most, v3, v4, v5] (.slice A j cap) (.int .u64 (lostOf lo0 lo1 kk)) W) := fun W hb =>
            ⟨HS1.out.below (H4.out.below hb).bl, HCR.out W _ ((H4.out.below hb).fr.at HAR.out HNR.out), HCL.out W _ ((H4.out.below hb).fr.at HAL.out HNL.out)⟩
          have HL6 : Hid (∀ W v, Below W4.heap.size W4 W → LdR b w.heap.size (w.heap.size + 1) kk #[.iface pT (.pointer (some ⟨pa, 0, none⟩)), sz, .int .i64 most, v3, v4, v5] (.slice A j cap) (.int .u64 (lostOf lo0 lo1 kk)) (W.setCell ⟨w.heap.size + 2, kk, none⟩ v)) := fun W v hb =>
            ⟨(HS1.out.below (H4.out.below hb).bl).set_other (p := ⟨w.heap.size + 2, kk, none⟩) (by show b ≠ w.heap.size + 2; have := HLTB.out; omega) v,
              HCR.out _ _ (((H4.out.below hb).fr.trans (Frame.set _ W _ kk v (by simp))).at HAR.out HNR.out), HCL.out _ _ (((H4.out.below hb).fr.trans (Frame.set _ W _ kk v (by simp))).at HAL.out HNL.out)⟩
          clear HX
          obtain ⟨lk, hlk⟩ : ∃ lk, lostOf lo0 lo1 kk = lk := ⟨_, rfl⟩
          have HLK := Lib.hid hlk
          rw [hlk] at hL4 HLDK HL5 HL6
          clear hlk
          haveI hne : Nonempty (Held (LdR b w.heap.size (w.heap.size + 1) kk #[.iface pT (.pointer (some ⟨pa, 0, none⟩)), sz, .int .i64 most, v3, v4, v5] (.slice A j cap) (.int .u64 lk))) := ⟨⟨W4, hL4⟩⟩
          have hfar1 := fun v : Held (LdR b w.heap.size (w.heap.size + 1) kk #[.iface pT (.pointer (some ⟨pa, 0, none⟩)), sz, .int .i64 most, v3, v4, v5] (.slice A j cap) (.int .u64 lk)) => v.held.far.1.six
          have hfar2 := fun v : Held (LdR b w.heap.size (w.heap.size + 1) kk #[.iface pT (.pointer (some ⟨pa, 0, none⟩)), sz, .int .i64 most, v3, v4, v5] (.slice A j cap) (.int .u64 lk)) => v.held.far.2.1
          have hfar3 := fun v : Held (LdR b w.heap.size (w.heap.size + 1) kk #[.iface pT (.pointer (some ⟨pa, 0, none⟩)), sz, .int .i64 most, v3, v4, v5] (.slice A j cap) (.int .u64 lk)) => v.held.far.2.2
          refine wp_region_noPanic ?_
          refine wp_region_held_drew (S := HeldS (LdR b w.heap.size (w.heap.size + 1) kk #[.iface pT (.pointer (some ⟨pa, 0, none⟩)), sz, .int .i64 most, v3, v4, v5] (.slice A j cap) (.int .u64 lk))) (by kernel_rfl) (by rw [hW4]; exact HeldS.mk' hL4) (fun hHeld => ?_)
          rw [hW4] at hHeld ⊢
          clear hW4 hL4
          refine wpAnyH_run0 [true, true, true, true, true, true, true, true, true, true, true, true, true, true, true] 7 (by kernel_rfl) (by kernel_rfl) (fun _ _ _ _ h => h) (by kernel_rfl) hHeld ?_
          simp only [runOps_true, runOps_false, runOps_nil]
          repeat (first | go_big_quiet_skip | (go_big_quiet_want; go_big_quiet_op; go_big_quiet_on))
          refine wpQuiet_nil ?_
          refine wpAnyH_ready (rs := [15]) (by kernel_rfl) (by simp) ?_
          refine AllReadyH.cons rfl (fun K hK => ?_) AllReadyH.nil
          go_simp
          go_wp2_with (go_at_call 48; refine HLDK.out.mono ?_; rintro e w5 ⟨⟨vv, cd, rfl, HSL⟩, hb⟩)
          refine hK.out _ _ ?_ (fun hHeld => ?_)
          clear hK K
          · exact HeldS.mk' (HL5.out _ hb)
          have H5 := Lib.hid (H4.out.below hb)
          have HB5 := Lib.hid hb
          have l5 := H5.out.as'.lt
          obtain ⟨pk, hpk⟩ : ∃ pk, w5.cell? ⟨w.heap.size + 2, kk, none⟩ = some pk := by
            rcases (by omega : kk = 0 ∨ kk = 1) with rfl | rfl
            · exact ⟨_, H5.out.as'.cell (i := 0) rfl⟩
            · exact ⟨_, H5.out.as'.cell (i := 1) rfl⟩
          have fpk := H5.out.as'.frozen kk
          clear hb HLDK
          rcases HSL.out with ⟨hOK, rfl, d, D, rfl, hW, hS⟩ | ⟨hNO, rfl, rfl⟩
          · rw [← HLK.out] at hOK hS
            obtain ⟨x0, x1, hI6⟩ := H4.out.more hlt HB5.out hW hS HOKR.out hOK
            have H6 := Lib.hid hI6
            clear HSL hOK hW hS hI6 H4 H5
            refine wpAnyH_run0 [false, false, false, false, false, false, false, false, false, false, false, false, false, false, false, false, true, true, true, true] 2 (by kernel_rfl) (by kernel_rfl) (fun _ _ _ _ h => h) (by kernel_rfl) hHeld ?_
            simp only [runOps_true, runOps_false, runOps_nil]
            repeat (first | go_big_quiet_skip | (go_big_quiet_want; go_big_quiet_op; go_big_quiet_on))
            refine wpQuiet_nil ?_
            refine wpAnyH_ready (rs := [20]) (by kernel_rfl) (by simp) ?_
            refine AllReadyH.cons rfl (fun K hK => ?_) (AllReadyH.nil)
            go_simp
            go_wp2
            refine hK.out _ _ (HeldS.mk' (HL6.out _ _ HB5.out)) (fun hHeld => ?_)
            clear hK K
            refine wpAnyH_run0 [false, false, false, false, false, false, false, false, false, false, false, false, false, false, false, false, false, false, false, false, false, true] 0 (by kernel_rfl) (by kernel_rfl) (fun _ _ _ _ h => h) (by kernel_rfl) hHeld ?_
            simp only [runOps_true, runOps_false, runOps_nil]
            repeat (first | go_big_quiet_skip | (go_big_quiet_want; go_big_quiet_op; go_big_quiet_on))
            refine wpQuiet_nil ?_
            refine wpAnyH_done (by kernel_rfl) ?_ _
            refine NoPanic.normal ?_
            clear hfar1 hfar2 hfar3 hHeld hpk fpk l5 HB5
            go_wp2
            go_roundw
            case rel => exact ⟨kk + 1, by omega, by simp, x0, x1, H6⟩
            case measure => simp [intOf]; omega
          · rw [← HLK.out] at hNO
            have HBD : Hid (¬ BLoad rep s most q0 q1 lo0 lo1 zero) := fun k => hNO (k.sl kk)
            have HB6 : Hid (Below w.heap.size w (w5.setCell ⟨w.heap.size + 2, kk, none⟩ .nilIface)) := H5.out.bl.setCell (p := ⟨w.heap.size + 2, kk, none⟩) (by show w.heap.size ≤ w.heap.size + 2; omega) _
            clear HSL hNO H4 H5
            refine wpAnyH_run0 [false, false, false, false, false, false, false, false, false, false, false, false, false, false, false, false, true, true, true, true] 2 (by kernel_rfl) (by kernel_rfl) (fun _ _ _ _ h => h) (by kernel_rfl) hHeld ?_
            simp only [runOps_true, runOps_false, runOps_nil]
            repeat (first | go_big_quiet_skip | (go_big_quiet_want; go_big_quiet_op; go_big_quiet_on))
            refine wpQuiet_nil ?_
            refine wpAnyH_ready (rs := [20]) (by kernel_rfl) (by simp) ?_
            refine AllReadyH.cons rfl (fun K hK => ?_) (AllReadyH.nil)
            go_simp
            go_wp2
            refine hK.out _ _ (HeldS.mk' (HL6.out _ _ HB5.out)) (fun hHeld => ?_)
            clear hK K
            refine wpAnyH_run0 [false, false, false, false, false, false, false, false, false, false, false, false, false, false, false, false, false, false, false, false, false, true] 0 (by kernel_rfl) (by kernel_rfl) (fun _ _ _ _ h => h) (by kernel_rfl) hHeld ?_
            simp only [runOps_true, runOps_false, runOps_nil]
            repeat (first | go_big_quiet_skip | (go_big_quiet_want; go_big_quiet_op; go_big_quiet_on))
            refine wpQuiet_nil ?_
            refine wpAnyH_done (by kernel_rfl) ?_ _
            refine NoPanic.normal ?_
            clear hfar1 hfar2 hfar3 hHeld hpk fpk l5 HB5
            go_wp2
            go_ret
            exact BLoadR.bad HBD.out HB6.out
    · obtain rfl : kk = 2 := by omega
      obtain ⟨sT, hsT⟩ : ∃ z, (sKnd s).T = z := ⟨_, rfl⟩
      obtain ⟨sF, hsF⟩ : ∃ z, (sKnd s).fT = z := ⟨_, rfl⟩
      have HI1 : Hid (LdI w W0 wr.drew (w.heap.size + 2) s most rep q0 q1 lo0 lo1 2 v0 v1) := HI.out.below (Below.refl _ _).drew
      rw [hsT] at u1
      rw [hsF] at u1 u2 HTT
      have HSTT := HI1.out.st
      rcases HSTT with h0 | ⟨h0, _⟩ | ⟨_, d0, D0, d1, D1, ⟨e0, e1⟩, ⟨g0, g1⟩, hap, hS0, hS1⟩
      · omega
      · omega
      have HE : Hid (v0 = .iface (sKnd s).T (.pointer (some ⟨d0, 0, none⟩)) ∧ v1 = .iface (sKnd s).T (.pointer (some ⟨d1, 0, none⟩))) := ⟨e0, e1⟩
      rw [hsT] at e0 e1
      subst e0 e1
      have HSD := Lib.hid (And.intro (And.intro g0 g1) (And.intro hap (And.intro hS0 hS1)))
      obtain ⟨T0, hT0⟩ : ∃ t, sumP q0 + lo0 = t := ⟨_, rfl⟩
      obtain ⟨T1, hT1⟩ : ∃ t, sumP q1 + lo1 = t := ⟨_, rfl⟩
      have HT : Hid ((0 ≤ T0 ∧ T0 ≤ 9223372036854775807) ∧ (0 ≤ T1 ∧ T1 ≤ 9223372036854775807)) := by
        have a0 := hS0.sums
        have a1 := hS1.sums
        rw [hT0] at a0
        rw [hT1] at a1
        exact ⟨⟨by omega, a0.2.2⟩, by omega, a1.2.2⟩
      have HT0 := Lib.hid hT0
      have HT1 := Lib.hid hT1
      have HSZ := Lib.hid hsT
      clear g0 g1 hap hS0 hS1 hT0 hT1 hsT hsF hlt hkk HI
      go_wp2
      obtain ⟨W4, hW4⟩ : ∃ W, wr.drew = W := ⟨_, rfl⟩
      rw [hW4] at HI1 HSD
      have s4 : LdT (w.heap.size + 2) (.iface sT (.pointer (some ⟨d0, 0, none⟩))) (.iface sT (.pointer (some ⟨d1, 0, none⟩))) W4 := HI1.out.as'
      haveI hne : Nonempty (Held (LdT (w.heap.size + 2) (.iface sT (.pointer (some ⟨d0, 0, none⟩))) (.iface sT (.pointer (some ⟨d1, 0, none⟩))))) := ⟨⟨W4, s4⟩⟩
      have hfar := fun v : Held (LdT (w.heap.size + 2) (.iface sT (.pointer (some ⟨d0, 0, none⟩))) (.iface sT (.pointer (some ⟨d1, 0, none⟩)))) => v.held.far.two
      refine wp_region_noPanic ?_
      refine wp_region_held_drew (S := HeldS (LdT (w.heap.size + 2) (.iface sT (.pointer (some ⟨d0, 0, none⟩))) (.iface sT (.pointer (some ⟨d1, 0, none⟩))))) (by kernel_rfl) (by rw [hW4]; exact HeldS.mk' s4) (fun hHeld => ?_)
      rw [hW4] at hHeld ⊢
      clear hW4
      refine wpAnyH_run0 [true, true, false, true, true, false, true] 9 (by kernel_rfl) (by kernel_rfl) (fun _ _ _ _ h => h) (by kernel_rfl) hHeld ?_
      simp only [runOps_true, runOps_false, runOps_nil]
      repeat (first | go_big_quiet_skip | (go_big_quiet_want; go_big_quiet_op; go_big_quiet_on))
      refine wpQuiet_nil ?_
      refine wpAnyH_ready (rs := [2]) (by kernel_rfl) (by simp) ?_
      refine AllReadyH.cons rfl (fun K hK => ?_) (AllReadyH.nil)
      go_simp
      go_wp2_with fail
      refine (HTT.out d0 D0 q0 _ W4 HSD.out.2.2.1).mono ?_
      rintro e w5 ⟨rfl, hb⟩
      rw [HT0.out]
      dsimp only
      refine hK.out _ _ (HeldS.mk' (At.below s4 hb)) (fun hHeld => ?_)
      clear hK K
      have s5 : LdT (w.heap.size + 2) (.iface sT (.pointer (some ⟨d0, 0, none⟩))) (.iface sT (.pointer (some ⟨d1, 0, none⟩))) w5 := At.below s4 hb
      have HI5 := Lib.hid (HI1.out.below hb)
      have HSD5 := Lib.hid (And.intro (HSD.out.2.2.1.below hb) (HSD.out.2.2.2.below hb))
      clear hb s4 HI1
      refine wpAnyH_ready (rs := [5]) (by kernel_rfl) (by simp) ?_
      refine AllReadyH.cons rfl (fun K hK => ?_) (AllReadyH.nil)
      go_simp
      go_wp2_with fail
      refine (HTT.out d1 D1 q1 _ w5 HSD5.out.2).mono ?_
      rintro e w6 ⟨rfl, hb⟩
      rw [HT1.out]
      dsimp only
      refine hK.out _ _ (HeldS.mk' (At.below s5 hb)) (fun hHeld => ?_)
      clear hK K
      have s6 : At w6 (w.heap.size + 2) #[.iface sT (.pointer (some ⟨d0, 0, none⟩)), .iface sT (.pointer (some ⟨d1, 0, none⟩))] 105 := At.below s5 hb
      have HI6 := Lib.hid (HI5.out.below hb)
      have HSD6 := Lib.hid (And.intro (HSD5.out.1.below hb) (HSD5.out.2.below hb))
      clear hb s5 HI5 HSD5
      have hba : Below w6.heap.size w6 (w6.alloc (.cells #[.int .u64 T0, .int .u64 T1, .int .u64 zero] 22)) := (Below.refl _ _).alloc (Nat.le_refl _) _
      have a7 := At.new w6 #[.int .u64 T0, .int .u64 T1, .int .u64 zero] 22
      have s7 := s6.below hba
      have HI7 := Lib.hid (HI6.out.below hba)
      have HSD7 := Lib.hid (And.intro (HSD6.out.1.below hba) (HSD6.out.2.below hba))
      refine wpAnyH_ready (rs := [7]) (by kernel_rfl) (by simp) ?_
      refine AllReadyH.cons rfl (fun K hK => ?_) (AllReadyH.nil)
      go_simp
      go_wp2
      refine hK.out _ _ (HeldS.mk' s7) (fun hHeld => ?_)
      clear hK K hba
      obtain ⟨g7, hg7⟩ : ∃ g, w6.heap.size = g := ⟨_, rfl⟩
      obtain ⟨W7, hW7⟩ : ∃ W, w6.alloc (.cells #[.int .u64 T0, .int .u64 T1, .int .u64 zero] 22) = W := ⟨_, rfl⟩
      rw [hW7] at a7 s7 HI7 HSD7 hHeld
      rw [hg7] at a7
      simp only [hW7, hg7]
      have c70 : W7.cell? ⟨g7, 0, none⟩ = some (.int .u64 T0) := a7.cell rfl
      have c71 : W7.cell? ⟨g7, 1, none⟩ = some (.int .u64 T1) := a7.cell rfl
      have c72 : W7.cell? ⟨g7, 2, none⟩ = some (.int .u64 zero) := a7.cell rfl
      have HP3 := Lib.hid (plus3_any g7 T0 T1 zero W7 ⟨HT.out.1.1, by have := HT.out.1.2; omega⟩ ⟨HT.out.2.1, by have := HT.out.2.2; omega⟩ HZ.out.2.2 c70 c71 c72)
      clear hW7 hg7 a7 c70 c71 c72 s6 HI6 HSD6
      refine wpAnyH_ready (rs := [8]) (by kernel_rfl) (by simp) ?_
      refine AllReadyH.cons rfl (fun K hK => ?_) AllReadyH.nil
      go_simp
      go_wp2_with (go_at_call 43; refine HP3.out.mono ?_; rintro e w8 ⟨rfl, rfl⟩)
      refine hK.out _ _ ?_ (fun hHeld => ?_)
      clear hK K
      · exact HeldS.mk' s7
      clear HP3
      refine wpAnyH_run0 [false, false, false, false, false, false, false, false, false, true, true, true, true, true] 0 (by kernel_rfl) (by kernel_rfl) (fun _ _ _ _ h => h) (by kernel_rfl) hHeld ?_
      simp only [runOps_true, runOps_false, runOps_nil]
      repeat (first | go_big_quiet_skip | (go_big_quiet_want; go_big_quiet_op; go_big_quiet_on))
      refine wpQuiet_nil ?_
      refine wpAnyH_done (by kernel_rfl) ?_ _
      refine NoPanic.normal ?_
      clear hHeld
      obtain ⟨pq, hpq⟩ : ∃ p, plus3Q T0 T1 zero = p := ⟨_, rfl⟩
      rw [hpq]
      clear hpq
      by_cases hs : T0 + T1 + zero ≤ 9223372036854775807
      · rw [decide_eq_true hs]
        have hokk := HI7.out.ok
        have HG : Hid (BLoad rep s most q0 q1 lo0 lo1 zero) := ⟨(hokk 0 (by omega)).1, (hokk 1 (by omega)).1, (hokk 0 (by omega)).2, (hokk 1 (by omega)).2, by rw [HT0.out, HT1.out]; exact hs⟩
        have HBN7 := Lib.hid (HBN.out.below HI7.out.bl)
        have HFIN : Hid (BLoadR b (PB ++ (b :: (S0 ++ S1))) k part rep s most q0 q1 lo0 lo1 zero w (.returned (.int .i64 0)) (((W7.drew.setCell ⟨b, 3, none⟩ (.iface sT (.pointer (some ⟨d0, 0, none⟩)))).setCell ⟨b, 4, none⟩ (.iface sT (.pointer (some ⟨d1, 0, none⟩)))).setCell ⟨b, 5, none⟩ (.int .u64 zero))) := by
          have hbd : Below W7.heap.size W7 W7.drew := (Below.refl _ _).drew
          have g0 := HSD.out.1.1
          have g1 := HSD.out.1.2
          have hbb := HLTB.out
          have hpb := HBN.out.pr.lt
          have e := BnB.stored (zero := zero) (HBN7.out.below hbd) (HSD7.out.1.below hbd) (HSD7.out.2.below hbd) (fun hm => by have := g0 _ hm; omega) (fun hm => by have := g1 _ hm; omega) HSD.out.2.1 (fun i hi hm => by have := g0 _ hm; have := hpb i hi; omega) (fun i hi hm => by have := g1 _ hm; have := hpb i hi; omega)
          rw [HSZ.out, HT0.out, HT1.out] at e
          refine .inl ⟨HG.out, rfl, PB ++ (b :: (D0 ++ D1)), fun i hi => ?_, ⟨PB, pa, d0, d1, D0, D1, rfl, by rw [HT0.out, HT1.out]; exact e.1⟩, (Frame.of_below (keep1 HI7.out.bl hbd)).trans (e.2.mono fun i hi => by simp at hi; simp [hi])⟩
          simp only [List.mem_append, List.mem_cons] at hi ⊢
          rcases hi with hi | rfl | hi | hi
          · exact .inl (.inl hi)
          · exact .inl (.inr (.inl rfl))
          · exact .inr (by have := g0 _ hi; omega)
          · exact .inr (by have := g1 _ hi; omega)
        have s8 : LdT (w.heap.size + 2) (.iface sT (.pointer (some ⟨d0, 0, none⟩))) (.iface sT (.pointer (some ⟨d1, 0, none⟩))) W7.drew := s7.drew
        have b8 := HBN7.out.at'.drew
        have hbs : w.heap.size + 2 ≠ b := by have := HLTB.out; omega
        have HBS := Lib.hid hbs
        clear hs hokk HG HBN7 HI7 HSD7 s7 hbs
        go_wp2
        obtain ⟨W8, hW8⟩ : ∃ W, W7.drew = W := ⟨_, rfl⟩
        rw [hW8] at s8 b8 HFIN
        refine wp_region_noPanic ?_
        refine wp_region_held_drew (S := HeldS (LdT (w.heap.size + 2) (.iface sT (.pointer (some ⟨d0, 0, none⟩))) (.iface sT (.pointer (some ⟨d1, 0, none⟩))))) (by kernel_rfl) (by rw [hW8]; exact HeldS.mk' s8) (fun hHeld => ?_)
        rw [hW8] at hHeld ⊢
        clear hW8
        refine wpAnyH_run0 [true, true, true, true, true, true, true, true, true, true] 7 (by kernel_rfl) (by kernel_rfl) (fun _ _ _ _ h => h) (by kernel_rfl) hHeld ?_
        simp only [runOps_true, runOps_false, runOps_nil]
        repeat (first | go_big_quiet_skip | (go_big_quiet_want; go_big_quiet_op; go_big_quiet_on))
        refine wpQuiet_nil ?_
        have s9 : LdT (w.heap.size + 2) (.iface sT (.pointer (some ⟨d0, 0, none⟩))) (.iface sT (.pointer (some ⟨d1, 0, none⟩))) (W8.setCell ⟨b, 3, none⟩ (.iface sT (.pointer (some ⟨d0, 0, none⟩)))) := At.set_other (p := ⟨b, 3, none⟩) s8 HBS.out _
        have s10 : LdT (w.heap.size + 2) (.iface sT (.pointer (some ⟨d0, 0, none⟩))) (.iface sT (.pointer (some ⟨d1, 0, none⟩))) ((W8.setCell ⟨b, 3, none⟩ (.iface sT (.pointer (some ⟨d0, 0, none⟩)))).setCell ⟨b, 4, none⟩ (.iface sT (.pointer (some ⟨d1, 0, none⟩)))) := At.set_other (p := ⟨b, 4, none⟩) s9 HBS.out _
        have s11 : LdT (w.heap.size + 2) (.iface sT (.pointer (some ⟨d0, 0, none⟩))) (.iface sT (.pointer (some ⟨d1, 0, none⟩))) (((W8.setCell ⟨b, 3, none⟩ (.iface sT (.pointer (some ⟨d0, 0, none⟩)))).setCell ⟨b, 4, none⟩ (.iface sT (.pointer (some ⟨d1, 0, none⟩)))).setCell ⟨b, 5, none⟩ (.int .u64 zero)) := At.set_other (p := ⟨b, 5, none⟩) s10 HBS.out _
        have f8 := b8.six
        have l8 := b8.lt
        refine wpAnyH_ready (rs := [10]) (by kernel_rfl) (by simp) ?_
        refine AllReadyH.cons rfl (fun K hK => ?_) (AllReadyH.nil)
        go_simp
        go_wp2
        refine hK.out _ _ (HeldS.mk' s9) (fun hHeld => ?_)
        clear hK K
        refine wpAnyH_run0 [false, false, false, false, false, false, false, false, false, false, false, true, true] 4 (by kernel_rfl) (by kernel_rfl) (fun _ _ _ _ h => h) (by kernel_rfl) hHeld ?_
        simp only [runOps_true, runOps_false, runOps_nil]
        repeat (first | go_big_quiet_skip | (go_big_quiet_want; go_big_quiet_op; go_big_quiet_on))
        refine wpQuiet_nil ?_
        refine wpAnyH_ready (rs := [13]) (by kernel_rfl) (by simp) ?_
        refine AllReadyH.cons rfl (fun K hK => ?_) (AllReadyH.nil)
        go_simp
        go_wp2
        refine hK.out _ _ (HeldS.mk' s10) (fun hHeld => ?_)
        clear hK K
        refine wpAnyH_run0 [false, false, false, false, false, false, false, false, false, false, false, false, false, false, true, true] 1 (by kernel_rfl) (by kernel_rfl) (fun _ _ _ _ h => h) (by kernel_rfl) hHeld ?_
        simp only [runOps_true, runOps_false, runOps_nil]
        repeat (first | go_big_quiet_skip | (go_big_quiet_want; go_big_quiet_op; go_big_quiet_on))
        refine wpQuiet_nil ?_
        refine wpAnyH_ready (rs := [16]) (by kernel_rfl) (by simp) ?_
        refine AllReadyH.cons rfl (fun K hK => ?_) (AllReadyH.nil)
        go_simp
        go_wp2
        refine hK.out _ _ (HeldS.mk' s11) (fun hHeld => ?_)
        clear hK K
        refine wpAnyH_done (by kernel_rfl) ?_ _
        refine NoPanic.normal ?_
        clear hfar hne hHeld s8 s9 s10 s11 b8 f8 l8
        go_wp2
        go_ret
        exact HFIN.out
      · rw [decide_eq_false hs]
        have HBD : Hid (¬ BLoad rep s most q0 q1 lo0 lo1 zero) := fun k => by have := k.sm; rw [HT0.out, HT1.out] at this; exact hs this
        clear hs hfar hne s7
        go_wp2
        go_ret
        exact BLoadR.bad HBD.out HI7.out.bl
end Go.Proofs.YtplfiheejecjiaaGreatDoor
