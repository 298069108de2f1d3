/- The walk of the statement CellsTable. -/
import Derived.Test.YtghklomcgijdpaaProg
import Derived.Test.YtghklomcgijdpaaOpen
import Derived.Test.YtghklomcgijdpaaAlive11
import Derived.Test.YtghklomcgijdpaaRCells
namespace Go.Proofs.Ytghklomcgijdpaa
open Go.RowKit

theorem RdU.all {W : World} {A : Option Addr} {L : List Nat} (h : RdU W A (castL L)) (hne : 0 < L.length) : ∃ g o, A = some ⟨g, o, none⟩ ∧ g < W.heap.size ∧ ∀ j, j < L.length → W.cell? ⟨g, o + j, none⟩ = some (.int .u64 (L.getD j 0 : Nat)) := by
  obtain ⟨g, o, rfl, hg, _⟩ := h.atN 0 hne
  refine ⟨g, o, rfl, hg, fun j hj => ?_⟩
  obtain ⟨g', o', e, _, hc⟩ := h.atN j hj
  cases e
  exact hc
theorem atL_out {L : List Nat} {i : Int} (h : i < 0 ∨ L.length ≤ i) : atL L i = 0 := by
  unfold atL
  rw [if_neg (by omega)]
theorem highL_out {L : List Nat} {i : Int} (h : i < 0 ∨ L.length ≤ i) : highL L i = 0 := by
  unfold highL
  rw [if_neg (by omega)]

set_option maxRecDepth 100000 in
set_option maxHeartbeats 2000000 in
theorem cellsTable_walk (w : World) (a0 a1 : Int) (bda0 : 0 ≤ a0 ∧ a0 < 18446744073709551616) (bda1 : 0 ≤ a1 ∧ a1 < 18446744073709551616) :
    Calls Try.prog 6 #[.agg #[.int .u64 a0, .int .u64 a1]] w fun e w' => e = .returned (.bool true) ∧ Below w.heap.size w w' := by
  obtain ⟨h1, h2⟩ := bda0
  obtain ⟨h3, h4⟩ := bda1
  go_enter Try.func6, Try.ntmps6
  go_wp2_with fail
  refine (alive_any _).mono ?_
  rintro e w1 ⟨rfl, hb1⟩
  have s1 : At w1 w.heap.size #[.int .u64 a0, .int .u64 a1] 29 := At.below (At.new' _ _ _ rfl) hb1
  have hB : Below w.heap.size w w1 := Below.trans (by repeat (first | with_reducible assumption | with_reducible exact Below.refl _ _ | with_reducible refine Below.drew ?_ | with_reducible refine Below.drewN ?_ _ | with_reducible refine Below.setCell ?_ (by first | omega | (simp; done) | (simp; omega)) _ | with_reducible refine Below.alloc ?_ (by first | omega | (simp; done) | (simp; omega) | (simp [World.setCell]; omega)) _)) (hb1.mono (by first | omega | (simp; done) | (simp; omega) | (simp [World.setCell]; omega)))
  have f1 := s1.two
  have l1 := s1.lt
  have zB := hB.size
  clear hb1
  have HG1 := Lib.hid (fun W => cgood_any a0 a1 W h1 h2 h3 h4)
  have HG2 := Lib.hid (fun W => rgoodC_any a0 a1 W h1 h2 h3 h4)
  cases hg : goodC a0 a1
  · go_wp2_with fail
    refine (cnew_bad a0 a1 _ h1 h2 h3 h4 hg).mono ?_
    rintro e w2 ⟨rfl, hb⟩
    replace s1 : At w2 (w.heap.size) _ _ := At.below (by repeat (first | with_reducible assumption | (with_reducible apply At.new'; (first | with_reducible rfl | (simp; done))) | with_reducible apply At.set2 | with_reducible apply At.alloc | with_reducible apply At.drew | with_reducible apply At.drewN | (with_reducible apply At.set_other; (case hne => first | (simp; done) | (simp; omega))))) hb
    replace hB : Below w.heap.size w w2 := Below.trans (by repeat (first | with_reducible assumption | with_reducible exact Below.refl _ _ | with_reducible refine Below.drew ?_ | with_reducible refine Below.drewN ?_ _ | with_reducible refine Below.setCell ?_ (by first | omega | (simp; done) | (simp; omega)) _ | with_reducible refine Below.alloc ?_ (by first | omega | (simp; done) | (simp; omega) | (simp [World.setCell]; omega)) _)) (hb.mono (by first | omega | (simp; done) | (simp; omega) | (simp [World.setCell]; omega)))
    replace f1 := s1.two
    replace l1 := s1.lt
    replace zhB := hB.size
    clear hb
    rw [hg] at HG1 HG2
    clear hg
    go_wp2
    have hfar1 := fun x : Far w2 => (x.at s1).two
    refine wp_region_far (by kernel_rfl) (by kernel_rfl) ?_
    repeat (first | go_big_quiet_skip | (go_big_quiet_want; go_big_quiet_op; first | go_big_quiet_on | (apply Exists.intro; refine ⟨fun _ => ?_, ?_⟩; (focus (first | (go_at_call 18; exact far_of (HG1.out _)) | (go_at_call 16; exact far_of (HG2.out _)))); go_big_quiet_on)))
    refine wpQuiet_nil ?_
    rintro _ ⟨xq, rfl⟩
    clear hfar1
    have hxb := keep1 hB xq.below
    have fx := (s1.below xq.below).two
    go_wp2_with fail
    refine (HG2.out _).mono ?_
    rintro e w3 ⟨rfl, hb⟩
    replace hxb := keep1 hxb hb
    clear hb fx
    go_wp2
    go_ret
    exact ⟨by first | rfl | simp, hxb⟩
  have G := goodC_iff.1 hg
  obtain ⟨u, rfl⟩ := Int.eq_ofNat_of_zero_le h1
  obtain ⟨v, rfl⟩ := Int.eq_ofNat_of_zero_le h3
  obtain ⟨g1, g2, g3⟩ := G
  rw [hg] at HG1 HG2
  have HB := Lib.hid (And.intro g1 (And.intro g2 g3))
  clear hg g1 g2 g3 h1 h2 h3 h4
  obtain ⟨V, hV⟩ : ∃ V, Hid (cellsF u v 4096 1 = V) := ⟨_, rfl⟩
  go_wp2_with fail
  refine (cnew_good u v _ (by have := HB.out; omega) (by have := HB.out; omega) (by have := HB.out; omega)).mono ?_
  rintro e w2 ⟨hN, hb⟩
  replace s1 : At w2 (w.heap.size) _ _ := At.below (by repeat (first | with_reducible assumption | (with_reducible apply At.new'; (first | with_reducible rfl | (simp; done))) | with_reducible apply At.set2 | with_reducible apply At.alloc | with_reducible apply At.drew | with_reducible apply At.drewN | (with_reducible apply At.set_other; (case hne => first | (simp; done) | (simp; omega))))) hb
  replace hB : Below w.heap.size w w2 := Below.trans (by repeat (first | with_reducible assumption | with_reducible exact Below.refl _ _ | with_reducible refine Below.drew ?_ | with_reducible refine Below.drewN ?_ _ | with_reducible refine Below.setCell ?_ (by first | omega | (simp; done) | (simp; omega)) _ | with_reducible refine Below.alloc ?_ (by first | omega | (simp; done) | (simp; omega) | (simp [World.setCell]; omega)) _)) (hb.mono (by first | omega | (simp; done) | (simp; omega) | (simp [World.setCell]; omega)))
  replace f1 := s1.two
  replace l1 := s1.lt
  replace zhB := hB.size
  clear hb
  unfold NewR at hN
  rw [hV.out] at hN
  cases V with
  | none =>
    dsimp only at hN
    subst hN
    go_wp2
    have hfar1 := fun x : Far w2 => (x.at s1).two
    refine wp_region_far (by kernel_rfl) (by kernel_rfl) ?_
    repeat (first | go_big_quiet_skip | (go_big_quiet_want; go_big_quiet_op; first | go_big_quiet_on | (apply Exists.intro; refine ⟨fun _ => ?_, ?_⟩; (focus (first | (go_at_call 18; exact far_of (HG1.out _)) | (go_at_call 16; exact far_of (HG2.out _)))); go_big_quiet_on)))
    refine wpQuiet_nil ?_
    rintro _ ⟨xq, rfl⟩
    clear hfar1
    have hxb := keep1 hB xq.below
    have sx := s1.below xq.below
    obtain ⟨W2, hW2⟩ : ∃ W2, xq.far = W2 := ⟨_, rfl⟩
    rw [hW2] at hxb sx ⊢
    clear hW2 s1 f1
    have fx := sx.two
    go_wp2_with fail
    refine (HG2.out _).mono ?_
    rintro e w3 ⟨rfl, hb⟩
    replace hxb := keep1 hxb hb
    replace sx := sx.below hb
    replace fx := sx.two
    clear hb
    by_cases h1000 : (1000 : Int) < v
    · go_wp2
      go_ret
      exact ⟨by first | rfl | simp, hxb⟩
    go_wp2_with fail
    refine (rcells_good u v _ (by have := HB.out; omega) (by have := HB.out; omega) (by have := HB.out; omega)).mono ?_
    rintro e w4 ⟨hR, hb⟩
    replace hxb := keep1 hxb hb
    clear hb sx fx
    unfold RcR at hR
    rw [hV.out] at hR
    dsimp only at hR
    subst hR
    go_wp2
    go_ret
    exact ⟨by first | rfl | simp, hxb⟩
  | some L =>
    dsimp only at hN
    obtain ⟨b, rfl, hTab⟩ := hN
    have C := Lib.hid (CellsOf.of hV.out (by have := HB.out; omega) (by have := HB.out; omega) (by have := HB.out; omega))
    go_wp2
    have hfar1 := fun x : Far w2 => (x.at s1).two
    refine wp_region_far (by kernel_rfl) (by kernel_rfl) ?_
    repeat (first | go_big_quiet_skip | (go_big_quiet_want; go_big_quiet_op; first | go_big_quiet_on | (apply Exists.intro; refine ⟨fun _ => ?_, ?_⟩; (focus (first | (go_at_call 18; exact far_of (HG1.out _)) | (go_at_call 16; exact far_of (HG2.out _)))); go_big_quiet_on)))
    refine wpQuiet_nil ?_
    rintro _ ⟨xq, rfl⟩
    clear hfar1
    have hxb := keep1 hB xq.below
    have sx := s1.below xq.below
    replace hTab := hTab.below xq.below
    obtain ⟨W2, hW2⟩ : ∃ W2, xq.far = W2 := ⟨_, rfl⟩
    rw [hW2] at hxb sx hTab ⊢
    clear hW2 s1 f1
    have fx := sx.two
    go_wp2_with fail
    refine (HG2.out _).mono ?_
    rintro e w3 ⟨rfl, hb⟩
    replace hxb := keep1 hxb hb
    replace sx := sx.below hb
    replace fx := sx.two
    replace hTab := hTab.below hb
    clear hb
    by_cases h1000 : (1000 : Int) < v
    · go_wp2
      go_ret
      exact ⟨by first | rfl | simp, hxb⟩
    go_wp2_with fail
    refine (rcells_good u v _ (by have := HB.out; omega) (by have := HB.out; omega) (by have := HB.out; omega)).mono ?_
    rintro e w4 ⟨hR, hb⟩
    replace hxb := keep1 hxb hb
    replace sx := sx.below hb
    replace fx := sx.two
    replace hTab := hTab.below hb
    clear hb
    unfold RcR at hR
    rw [hV.out] at hR
    dsimp only at hR
    obtain ⟨A, c, A2, c2, rfl, r1, r2⟩ := hR
    obtain ⟨ga, oa, rfl, hga, hca⟩ := r1.all C.out.pos
    obtain ⟨gb, ob, rfl, hgb, hcb⟩ := r2.all (by rw [List.length_map]; exact C.out.pos)
    obtain ⟨n, hn⟩ : ∃ n, L.length = n := ⟨_, rfl⟩
    rw [List.length_map, hn] at hcb
    rw [hn] at hca ⊢
    have HN : Hid (L.length = n ∧ 0 < n ∧ n ≤ 4096) := ⟨hn, by have := C.out.pos; omega, by have := C.out.len; omega⟩
    have HCA := Lib.hid hca
    have HCB := Lib.hid hcb
    have HLen : Hid (∀ x : Far w4, Calls Try.prog 12 #[.pointer (some ⟨b, 0, none⟩)] x.far fun e w' => e = .returned (.int .i64 n) ∧ w' = x.far) := fun x => (clen_any b _ _ L _ x.far (hTab.below x.below)).mono fun e w' ⟨h1, h2⟩ => ⟨by rw [h1, hn], h2.symm⟩
    have HPart : Hid (∀ x : Far w4, Calls Try.prog 20 #[.pointer (some ⟨b, 0, none⟩)] x.far fun e w' => e = .returned (.agg #[.int .u64 u, .int .u64 v]) ∧ Below x.far.heap.size x.far w') := fun x => cpart_any b _ _ L _ x.far (hTab.below x.below)
    clear hn hca hcb r1 r2
    go_wp2
    have hfar1 := fun x : Far w4 => (x.at sx).two
    refine wp_region_far (by kernel_rfl) (by kernel_rfl) ?_
    repeat (first | go_big_quiet_skip | (go_big_quiet_want; go_big_quiet_op; first | go_big_quiet_on | (apply Exists.intro; refine ⟨fun _ => ?_, ?_⟩; (focus (first | (go_at_call 12; exact far_of_same (HLen.out _)) | (go_at_call 20; exact far_of (HPart.out _)))); go_big_quiet_on)))
    refine wpQuiet_nil ?_
    rintro _ ⟨xq, rfl⟩
    clear hfar1
    replace hxb := keep1 hxb xq.below
    replace sx := sx.below xq.below
    replace hTab := hTab.below xq.below
    replace HCA : Hid (∀ j, j < n → xq.far.cell? ⟨ga, oa + j, none⟩ = some (.int .u64 (L.getD j 0 : Nat))) := fun j hj => xq.cell hga (HCA.out j hj)
    replace HCB : Hid (∀ j, j < n → xq.far.cell? ⟨gb, ob + j, none⟩ = some (.int .u64 ((L.map (repN u v)).getD j 0 : Nat))) := fun j hj => xq.cell hgb (HCB.out j hj)
    replace hga := Nat.lt_of_lt_of_le hga xq.below.size
    replace hgb := Nat.lt_of_lt_of_le hgb xq.below.size
    obtain ⟨W5, hW5⟩ : ∃ W5, xq.far = W5 := ⟨_, rfl⟩
    rw [hW5] at hxb hTab HCA HCB hga hgb ⊢
    have HT := Lib.hid hTab
    clear hW5 sx fx HLen HPart hTab HG1 HG2
    have v1 : IntKind.i64.wrap ((n : Int) - 1) = n - 1 := by have := HN.out; simp only [IntKind.wrap_i64]; omega
    go_wp2_with fail
    go_loopw [78] (fun iv wr => ∃ k : Nat, k ≤ n ∧ iv = .int .i64 k ∧ Below W5.heap.size W5 wr) (fun iv _ => n - (intOf iv).toNat)
    case atStart => exact ⟨0, by omega, rfl, Below.refl _ _⟩
    case round =>
      obtain ⟨k, hk, rfl, hBr⟩ := hrel
      by_cases hlt : k < n
      · have hlt' : (k : Int) < n := by omega
        have F2 := Lib.hid (C.out.atL (i := k) (by rw [HN.out.1]; exact hlt))
        have F3 := Lib.hid (C.out.highL (i := k) (by rw [HN.out.1]; exact hlt))
        have FR := Lib.hid (C.out.repL (i := k) (by rw [HN.out.1]; exact hlt))
        have hca := cellB hBr hga (HCA.out k hlt)
        have hcb := cellB hBr hgb (HCB.out k hlt)
        have hrr : (L.map (repN u v)).getD k 0 = repN u v (L.getD k 0) := by
          have h1 : k < L.length := by rw [HN.out.1]; exact hlt
          rw [List.getD_eq_getElem?_getD, List.getElem?_map, List.getElem?_eq_getElem h1, List.getD_eq_getElem?_getD, List.getElem?_eq_getElem h1]
          rfl
        have F4 := Lib.hid (C.out.at (i := k) (by rw [HN.out.1]; exact hlt))
        have F6 := Lib.hid (highN_le (u := u) (v := v) (low := L.getD k 0))
        have FN : Hid (k + 1 < n → L.getD (k + 1) 0 = highN u v (L.getD k 0) + 1) := fun h => C.out.next (by rw [HN.out.1]; exact h)
        have FL : Hid (k + 1 = n → highN u v (L.getD k 0) = mostN) := fun h => by
          have := C.out.last
          rw [HN.out.1, ← h, Nat.add_sub_cancel] at this
          exact this
        rw [hrr] at hcb
        obtain ⟨lo, hlo⟩ : ∃ lo, L.getD k 0 = lo := ⟨_, rfl⟩
        rw [hlo] at F2 F3 F4 F6 FR FN FL hca hcb
        obtain ⟨h, hh⟩ : ∃ h, highN u v lo = h := ⟨_, rfl⟩
        obtain ⟨r, hr⟩ : ∃ r, repN u v lo = r := ⟨_, rfl⟩
        rw [hh] at F3 F6 FN FL
        rw [hr] at FR hcb
        clear hlo hh hr hrr
        have k0 : (0 : Int) ≤ k := by omega
        go_wp2_with fail
        refine (crange_any b _ _ L _ (k : Int) wr (HT.out.below hBr) C.out.bd).mono ?_
        rintro e w6 ⟨rfl, hb⟩
        rw [F2.out, F3.out]
        have hza := Nat.lt_of_lt_of_le hga hBr.size
        have hzb := Nat.lt_of_lt_of_le hgb hBr.size
        replace hca := cellB hb hza hca
        replace hcb := cellB hb hzb hcb
        replace hza := Nat.lt_of_lt_of_le hza hb.size
        replace hzb := Nat.lt_of_lt_of_le hzb hb.size
        have hBr0 := hBr
        replace hBr := keep1 hBr hb
        have HRep : Hid (∀ x : Far w6, Calls Try.prog 11 #[.pointer (some ⟨b, 0, none⟩), .int .i64 k] x.far fun e w' => e = .returned (.int .u64 r) ∧ w' = x.far) := fun x => (crep_any b _ _ L _ k x.far ((HT.out.below hBr).below x.below)).mono fun e w' ⟨h1, h2⟩ => ⟨by rw [h1, FR.out], h2.symm⟩
        have v2 : IntKind.i64.wrap ((k : Int) + 1) = ((k + 1 : Nat) : Int) := by have := HN.out; simp only [IntKind.wrap_i64]; omega
        by_cases hl : k + 1 < n
        · have hl' : (k : Int) < (n : Int) - 1 := by omega
          have hl2 : ((k + 1 : Nat) : Int) < n := by omega
          have k1 : (0 : Int) ≤ ((k + 1 : Nat) : Int) := by omega
          have hcn := cellB hBr hga (HCA.out (k + 1) hl)
          rw [FN.out hl] at hcn
          have v3 : IntKind.u64.wrap (((h + 1 : Nat) : Int) - 1) = h := by have := F6.out; unfold mostN at this; simp only [IntKind.wrap_u64]; omega
          obtain ⟨k2, hk2⟩ : ∃ k2, k + 1 = k2 := ⟨_, rfl⟩
          obtain ⟨h2, hh2⟩ : ∃ h2, h + 1 = h2 := ⟨_, rfl⟩
          rw [hk2] at v2 hl2 k1 hcn
          rw [hh2] at v3 hcn
          have HK2 := Lib.hid hk2
          clear F2 F3 F4 F6 FR FN FL hb hl hk2 hh2 hBr0
          go_wp2
          have hfA := fun x : Far w6 => x.cell hza hca
          have hfB := fun x : Far w6 => x.cell hzb hcb
          refine wp_region_far (by kernel_rfl) (by kernel_rfl) ?_
          repeat (first | go_big_quiet_skip | (go_big_quiet_want; go_big_quiet_op; first | go_big_quiet_on | (apply Exists.intro; refine ⟨fun _ => ?_, ?_⟩; (focus (first | (go_at_call 11; exact far_of_same (HRep.out _)))); go_big_quiet_on)))
          refine wpQuiet_nil ?_
          rintro _ ⟨xq, rfl⟩
          clear hfA hfB
          have hBz := keep1 hBr xq.below
          go_wp2
          go_roundw
          case rel => exact ⟨k2, by have := HK2.out; omega, by go_num, hBz⟩
          case measure => have := HK2.out; simp [intOf]; omega
        · have hl' : ¬ (k : Int) < (n : Int) - 1 := by omega
          have hE : h = 9223372036854775808 := by rw [FL.out (by omega)]; rfl
          subst hE
          clear F2 F3 F4 F6 FR FN FL hb hl hBr0
          go_wp2
          have hfA := fun x : Far w6 => x.cell hza hca
          have hfB := fun x : Far w6 => x.cell hzb hcb
          refine wp_region_far (by kernel_rfl) (by kernel_rfl) ?_
          repeat (first | go_big_quiet_skip | (go_big_quiet_want; go_big_quiet_op; first | go_big_quiet_on | (apply Exists.intro; refine ⟨fun _ => ?_, ?_⟩; (focus (first | (go_at_call 11; exact far_of_same (HRep.out _)))); go_big_quiet_on)))
          refine wpQuiet_nil ?_
          rintro _ ⟨xq, rfl⟩
          clear hfA hfB
          have hBz := keep1 hBr xq.below
          go_wp2
          go_roundw
          case rel => exact ⟨k + 1, by omega, by go_num, hBz⟩
          case measure => simp [intOf]; omega
      · obtain rfl : k = n := by omega
        have z1 := Lib.hid (atL_out (L := L) (i := (k : Int)) (.inr (by rw [HN.out.1]; exact Int.le_refl _)))
        have z2 := Lib.hid (highL_out (L := L) (i := (k : Int)) (.inr (by rw [HN.out.1]; exact Int.le_refl _)))
        have z3 := Lib.hid (atL_out (L := L.map (repN u v)) (i := (k : Int)) (.inr (by rw [List.length_map, HN.out.1]; exact Int.le_refl _)))
        have z4 := Lib.hid (atL_out (L := L.map (repN u v)) (i := -1) (.inl (by omega)))
        replace hxb := keep1 hxb hBr
        replace HT := Lib.hid (HT.out.below hBr)
        clear hBr HCA HCB hga hgb
        go_wp2_with fail
        refine (crange_any b _ _ L _ (k : Int) wr HT.out C.out.bd).mono ?_
        rintro e w6 ⟨rfl, hb⟩
        rw [z1.out, z2.out]
        replace hxb := keep1 hxb hb
        replace HT := Lib.hid (HT.out.below hb)
        clear hb
        go_wp2_with fail
        refine (crep_any b _ _ L _ (k : Int) w6 HT.out).mono ?_
        rintro e w7 ⟨rfl, rfl⟩
        rw [z3.out]
        go_wp2_with fail
        refine (crep_any b _ _ L _ (-1) w6 HT.out).mono ?_
        rintro e w7 ⟨rfl, rfl⟩
        rw [z4.out]
        go_wp2
        go_ret
        exact ⟨by first | rfl | simp, hxb⟩
end Go.Proofs.Ytghklomcgijdpaa

