/- Contract of the document's Cells. -/
import Derived.Test.YtghklomcgijdpaaProg
import Derived.Test.YtghklomcgijdpaaAlive11
import Derived.Test.YtghklomcgijdpaaRef1d
namespace Go.Proofs.Ytghklomcgijdpaa
open Go.RowKit

/-- Two slices that are being built. -/
structure Tw (w0 : World) (B0 : Nat) (u v : Int) (W : World) (A : Option Addr) (c : Nat) (xs : List Int) (A2 : Option Addr) (c2 : Nat) (ys : List Int) : Prop where
  own1 : OwnU (B0 + 1) W A c xs
  own2 : OwnU (B0 + 1) W A2 c2 ys
  sep : SepA A A2
  arg : At W B0 #[.int .u64 u, .int .u64 v] 29
  below : Below w0.heap.size w0 W
  le : w0.heap.size ≤ B0
section
variable {w0 W W' : World} {B0 : Nat} {u v : Int} {A A2 : Option Addr} {c c2 : Nat} {xs ys : List Int}
theorem Tw.belowW (h : Tw w0 B0 u v W A c xs A2 c2 ys) (hb : Below W.heap.size W W') : Tw w0 B0 u v W' A c xs A2 c2 ys :=
  ⟨h.own1.below hb, h.own2.below hb, h.sep, h.arg.below hb, h.below.trans (hb.mono h.below.size), h.le⟩
theorem Tw.alloc (h : Tw w0 B0 u v W A c xs A2 c2 ys) (o : Obj) : Tw w0 B0 u v (W.alloc o) A c xs A2 c2 ys := h.belowW ((Below.refl _ _).alloc (Nat.le_refl _) o)
theorem Tw.base (h : Tw w0 B0 u v W A c xs A2 c2 ys) : B0 + 1 ≤ W.heap.size := h.arg.lt
theorem Tw.app1 {n c' : Nat} {A' : Option Addr} {p : Int} (h : Tw w0 B0 u v W A c xs A2 c2 ys) (ho : OwnU (B0 + 1) W' A' c' (xs ++ [p])) (hg : W.grownBy W' (Value.slice A n c).ownBlock)
    (hs : ∀ B : Option Addr, SepA A B → (∀ b, B = some b → b.block < W.heap.size) → SepA A' B) : Tw w0 B0 u v W' A' c' (xs ++ [p]) A2 c2 ys :=
  ⟨ho, h.own2.kept hg h.sep, hs A2 h.sep fun b hb => (h.own2.base_le b hb).2, h.arg.app hg (own_ne h.own1 (by omega)),
    h.below.grown hg h.below.size fun k hk => by
      cases A with
      | none => simp [Value.ownBlock] at hk
      | some g => simp only [Value.ownBlock, Option.some.injEq] at hk; have := (h.own1.base_le g rfl).1; have := h.le; omega, h.le⟩
theorem Tw.app2 {n c' : Nat} {A' : Option Addr} {p : Int} (h : Tw w0 B0 u v W A c xs A2 c2 ys) (ho : OwnU (B0 + 1) W' A' c' (ys ++ [p])) (hg : W.grownBy W' (Value.slice A2 n c2).ownBlock)
    (hs : ∀ B : Option Addr, SepA A2 B → (∀ b, B = some b → b.block < W.heap.size) → SepA A' B) : Tw w0 B0 u v W' A c xs A' c' (ys ++ [p]) :=
  ⟨h.own1.kept hg h.sep.symm, ho, (hs A h.sep.symm fun b hb => (h.own1.base_le b hb).2).symm, h.arg.app hg (own_ne h.own2 (by omega)),
    h.below.grown hg h.below.size fun k hk => by
      cases A2 with
      | none => simp [Value.ownBlock] at hk
      | some g => simp only [Value.ownBlock, Option.some.injEq] at hk; have := (h.own2.base_le g rfl).1; have := h.le; omega, h.le⟩
end

/-- The document's Over of a product, with fixed values. -/
theorem rover_fix (a y : Nat) (hi lo : Int) (p1 : 0 ≤ hi) (p2 : hi < 18446744073709551616) (p3 : 0 ≤ lo) (p4 : lo < 18446744073709551616) (p5 : hi * 18446744073709551616 + lo = (a : Nat)) (hy : y < 18446744073709551616) :
    (a < y * 18446744073709551616 → ∃ o : Int, ∀ W, Calls Try.prog 24 #[.agg #[.int .u64 hi, .int .u64 lo], .int .u64 y] W fun e w' => e = .returned (.tuple #[.int .u64 (a / y : Nat), .int .u64 o, .bool true]) ∧ Below W.heap.size W w') ∧
    (¬ a < y * 18446744073709551616 → ∀ W, Calls Try.prog 24 #[.agg #[.int .u64 hi, .int .u64 lo], .int .u64 y] W fun e w' => e = .returned (.tuple #[.int .u64 0, .int .u64 0, .bool false]) ∧ Below W.heap.size W w') := by
  refine ⟨fun h => ⟨overR (a : Int) (y : Int), fun W => ?_⟩, fun h W => ?_⟩
  · have := rover_any hi lo y W p1 p2 p3 p4 (by omega) (by omega)
    rw [p5, (overQ_nat h).1, (overQ_nat h).2] at this
    exact this
  · have := rover_any hi lo y W p1 p2 p3 p4 (by omega) (by omega)
    have h' : ¬ (a : Int) < (y : Int) * 18446744073709551616 := fun k => h (by omega)
    rw [p5, (over_no _ _ h').1, (over_no _ _ h').2.1, (over_no _ _ h').2.2] at this
    exact this

/-- What the document's Cells answers. -/
def RcR (u v : Nat) (e : Ending) (w' : World) : Prop := match cellsF u v 4096 1 with
  | none => e = .returned (.tuple #[.slice none 0 0, .slice none 0 0, .bool false])
  | some L => ∃ A c A2 c2, e = .returned (.tuple #[.slice A L.length c, .slice A2 L.length c2, .bool true]) ∧ RdU w' A (castL L) ∧ RdU w' A2 (castL (L.map (repN u v)))

set_option maxRecDepth 100000 in
set_option maxHeartbeats 4000000 in
theorem rcells_good (u v : Nat) (w : World) (hu0 : 0 < u) (hu : u < v) (hv : v ≤ 2147483648) :
    Calls Try.prog 19 #[.agg #[.int .u64 u, .int .u64 v]] w fun e w' => RcR u v e w' ∧ Below w.heap.size w w' := by
  obtain ⟨V, hV⟩ : ∃ V, Hid (cellsF u v 4096 1 = V) := ⟨_, rfl⟩
  obtain ⟨s, hs⟩ : ∃ s, v + u = s := ⟨_, rfl⟩
  obtain ⟨d, hd⟩ : ∃ d, v - u = d := ⟨_, rfl⟩
  have hs0 : s < 4294967296 := by omega
  have hd0 : 0 < d := by omega
  have hd1 : d < 4294967296 := by omega
  have hv0 : v < 4294967296 := by omega
  have v1 : IntKind.u64.wrap ((v : Int) + u) = (s : Int) := by simp only [IntKind.wrap_u64]; omega
  have v2 : IntKind.u64.wrap ((v : Int) - u) = (d : Int) := by simp only [IntKind.wrap_u64]; omega
  have HS0 := Lib.hid (And.intro hs hd)
  have HB0 := Lib.hid (And.intro hu0 (And.intro hu hv))
  have HD0 := Lib.hid (And.intro hs0 (And.intro hd0 (And.intro hd1 hv0)))
  clear hs hd hu0 hu hv hs0 hd0 hd1 hv0
  go_enter Try.func19, Try.ntmps19
  go_wp2
  obtain ⟨B0, hB0⟩ : ∃ B0, w.heap.size = B0 := ⟨_, rfl⟩
  refine gen_world (fun W => Hid (Tw w B0 u v W none 0 [] none 0 [])) ?_ ?_
  · exact ⟨OwnU.nil _ _, OwnU.nil _ _, fun a b h => (by cases h), At.new' _ _ _ hB0.symm, (by repeat (first | with_reducible assumption | with_reducible exact Below.refl _ _ | with_reducible refine Below.drew ?_ | with_reducible refine Below.drewN ?_ _ | with_reducible refine Below.setCell ?_ (by first | omega | (simp; done) | (simp; omega)) _ | with_reducible refine Below.alloc ?_ (by first | omega | (simp; done) | (simp; omega) | (simp [World.setCell]; omega)) _)), by omega⟩
  rintro W HT
  simp only [hB0]
  clear hB0
  go_loopw [5, 6, 8] (fun lv rv lowv wr => ∃ (n low : Nat) (L0 : List Nat) (A : Option Addr) (c : Nat) (A2 : Option Addr) (c2 : Nat), n ≤ 4096 ∧ Hid (L0.length = n) ∧ lv = .slice A n c ∧ rv = .slice A2 n c2 ∧ lowv = .int .u64 low ∧ 1 ≤ low ∧ low ≤ 9223372036854775809 ∧
      Hid (Tw w B0 u v wr A c (castL L0) A2 c2 (castL (L0.map (repN u v)))) ∧ Hid (V = (cellsF u v (4096 - n) low).map (L0 ++ ·))) (fun _ _ lowv _ => 9223372036854775809 - (intOf lowv).toNat)
  case atStart => exact ⟨0, 1, [], none, 0, none, 0, by omega, rfl, rfl, rfl, rfl, by omega, by omega, HT, by show _ = _; rw [← hV.out]; simp⟩
  case round =>
    clear HT
    obtain ⟨n, low, L0, A, c, A2, c2, hn, hL, rfl, rfl, rfl, hl1, hl2, HT, HC⟩ := hrel
    by_cases hle : low ≤ 9223372036854775808
    · have hle' : (low : Int) ≤ 9223372036854775808 := by omega
      by_cases hfull : n = 4096
      · subst hfull
        have HN : Hid (cellsF u v 4096 1 = none) := by
          show _ = _
          rw [hV.out, HC.out, Nat.sub_self, cellsF, if_neg (by unfold mostN; omega)]
          rfl
        have hbel := HT.out.below
        clear hV HC hL
        go_wp2
        go_ret3
        exact ⟨by unfold RcR; rw [HN.out]; rfl, hbel⟩
      have hn' : ((n : Int) == 4096) = false := beq_eq_false_iff_ne.2 (by omega)
      obtain ⟨hu0, hu, hv⟩ := HB0.out
      obtain ⟨hs0, hd0, hd1, hv0⟩ := HD0.out
      have hh1 := highN_ge (u := u) (v := v) (low := low) hu hle
      have hh2 := highN_le (u := u) (v := v) (low := low)
      have HC2 : Hid (V = (cellsF u v (4096 - (n + 1)) (highN u v low + 1)).map ((L0 ++ [low]) ++ ·)) := cellsF_step (by rw [show 4096 - (n + 1) + 1 = 4096 - n by omega]; exact HC.out) hle
      obtain ⟨r, hr⟩ : ∃ r, repN u v low = r := ⟨_, rfl⟩
      obtain ⟨h, hh⟩ : ∃ h, highN u v low = h := ⟨_, rfl⟩
      have HR : Hid (castL ((L0 ++ [low]).map (repN u v)) = castL (L0.map (repN u v)) ++ [(r : Int)]) := by show _ = _; rw [List.map_append, castL, List.map_append, ← hr]; rfl
      have HL : Hid (castL (L0 ++ [low]) = castL L0 ++ [(low : Int)]) := castL_append _ _
      have hlen1 := Lib.hid (show (castL L0).length = n by rw [castL_length]; exact hL.out)
      have hlen2 := Lib.hid (show (castL (L0.map (repN u v))).length = n by rw [castL_length, List.length_map]; exact hL.out)
      -- the numbers
      have Hr : Hid (min (repR u v low) topN = r) := hr
      have Hh : Hid ((if mostN < repR u v low then mostN else min (repR u v low * v / (v - u)) mostN) = h) := hh
      have HF : Hid (low * s < v * 18446744073709551616 ∧ low * s / v = repR u v low) := by
        have := next_fit hu hle
        refine ⟨by rw [← HS0.out.1]; exact this, by rw [← HS0.out.1]; rfl⟩
      have Hno : Hid (∀ q, ¬ q * v < d * 18446744073709551616 → min (q * v / d) mostN = mostN) := fun q hq => by rw [← HS0.out.2] at hq ⊢; exact next_high_no hu hq
      rw [HS0.out.2] at Hh
      rw [hh] at hh1 hh2 HC2
      have HRb : Hid (repR u v low < 18446744073709551616) := by
        have := overQ_bd ((low * s : Nat) : Int) (v : Int) (by omega) (by omega)
        rw [(overQ_nat HF.out.1).1, HF.out.2] at this
        show _ < _
        omega
      obtain ⟨R, hR⟩ : ∃ R, repR u v low = R := ⟨_, rfl⟩
      rw [hR] at Hr Hh HF HRb
      obtain ⟨x1, y1, p1, p2, p3, p4, p5, H1⟩ := rtimes_fix (low : Int) (s : Int) (by omega) (by omega) (by omega) (by omega)
      obtain ⟨o1, H2⟩ := (rover_fix (low * s) v x1 y1 p1 p2 p3 p4 (by rw [p5, Int.natCast_mul]) (by omega)).1 HF.out.1
      rw [HF.out.2] at H2
      replace H1 := Lib.hid H1
      replace H2 := Lib.hid H2
      unfold mostN at hh2
      have HH := Lib.hid (And.intro hh1 (And.intro hh2 (And.intro hl1 hl2)))
      have vh : IntKind.u64.wrap ((h : Int) + 1) = ((h + 1 : Nat) : Int) := by simp only [IntKind.wrap_u64]; omega
      have hLn := hL
      have HTa := Lib.hid (HT.out.alloc (.cells #[.int .u64 low] 22))
      have hn4 : n < 4096 := by omega
      clear hr hh HC hL hR p1 p2 p3 p4 p5 hh1 hh2 hl1 hl2 hn hfull hle hu0 hu hv hs0 hd0 hd1 hv0
      go_wp2_with (at_builtin; refine wpList_append_u64 rfl _ _ rfl (B0 + 1) A c n (castL L0) rfl hlen1.out HTa.out.own1 _ _ low rfl (new_one0 rfl) (by omega) HTa.out.base ?_; intro A1 c1 W1 HO HG HS)
      replace HT := Lib.hid (HTa.out.app1 HO.out HG.out HS.out)
      clear HTa HO HG HS
      have fA := HT.out.arg
      have hfar1 := fun x : Far W1 => (x.at fA).two
      refine wp_region_far (by kernel_rfl) (by kernel_rfl) ?_
      repeat (first | go_big_quiet_skip | (go_big_quiet_want; go_big_quiet_op; first | go_big_quiet_on | (apply Exists.intro; refine ⟨fun _ => ?_, ?_⟩; (focus (first | (go_at_call 14; with_reducible exact far_of (H1.out _)) | (go_at_call 24; with_reducible exact far_of (H2.out _)))); go_big_quiet_on)))
      refine wpQuiet_nil ?_
      rintro _ ⟨xq, rfl⟩
      clear hfar1
      replace HT := Lib.hid (HT.out.belowW xq.below)
      clear fA H1 H2
      have HRb' := HRb.out
      by_cases hm : mostN < R
      · have hm' : ¬ (R : Int) ≤ 9223372036854775808 := by unfold mostN at hm; omega
        have e1 : Hid ((9223372036854775807 : Int) = r) := by show _ = _; rw [← Hr.out]; unfold mostN at hm; unfold topN; omega
        have e2 : h = 9223372036854775808 := by rw [← Hh.out, if_pos hm]; rfl
        have HTd := HT
        clear hm Hr Hh HF Hno
        subst e2
        have HTb := Lib.hid (HT.out.alloc (.cells #[.int .u64 9223372036854775807] 22))
        go_wp2_with (at_builtin; refine wpList_append_u64 rfl _ _ rfl (B0 + 1) A2 c2 n (castL (L0.map (repN u v))) rfl hlen2.out HTb.out.own2 _ _ 9223372036854775807 rfl (new_one0 rfl) (by omega) HTb.out.base ?_; intro A3 c3 W3 HO HG HS)
        replace HT := Lib.hid (HTb.out.app2 HO.out HG.out HS.out)
        rw [e1.out] at HT
        rw [← HL.out, ← HR.out] at HT
        go_roundw
        case rel => exact ⟨n + 1, 9223372036854775808 + 1, L0 ++ [low], A1, c1, A3, c3, by omega, by show _ = _; rw [List.length_append, hLn.out]; rfl, rfl, rfl, by go_num, by omega, by have := HH.out; omega, HT, HC2⟩
        case measure => have := HH.out; simp [intOf]; omega
      have hm' : (R : Int) ≤ 9223372036854775808 := by unfold mostN at hm; omega
      have Hh2 := Hh.out
      rw [if_neg hm] at Hh2
      replace Hh2 := Lib.hid Hh2
      clear Hh HF hm
      obtain ⟨hs0, hd0, hd1, hv0⟩ := HD0.out
      obtain ⟨x2, y2, p1, p2, p3, p4, p5, H3⟩ := rtimes_fix (R : Int) (v : Int) (by omega) (by omega) (by omega) (by omega)
      have HO4 := rover_fix (R * v) d x2 y2 p1 p2 p3 p4 (by rw [p5, Int.natCast_mul]) (by omega)
      replace H3 := Lib.hid H3
      clear p1 p2 p3 p4 p5 hs0 hd0 hd1 hv0
      obtain ⟨WX, hWX⟩ : ∃ WX, xq.far = WX := ⟨_, rfl⟩
      rw [hWX] at HT ⊢
      clear hWX
      by_cases hf : R * v < d * 18446744073709551616
      · obtain ⟨o2, H4⟩ := HO4.1 hf
        replace H4 := Lib.hid H4
        clear HO4 Hno
        have hqb : R * v / d < 18446744073709551616 := by rw [Nat.div_lt_iff_lt_mul (by have := HD0.out; omega)]; exact (Nat.mul_comm d 18446744073709551616) ▸ hf
        obtain ⟨q, hq⟩ : ∃ q, R * v / d = q := ⟨_, rfl⟩
        rw [hq] at H4 Hh2 hqb
        clear hq hf
        have fA := HT.out.arg
        go_wp2
        have hfar1 := fun x : Far WX => (x.at fA).two
        refine wp_region_far (by kernel_rfl) (by kernel_rfl) ?_
        repeat (first | go_big_quiet_skip | (go_big_quiet_want; go_big_quiet_op; first | go_big_quiet_on | (apply Exists.intro; refine ⟨fun _ => ?_, ?_⟩; (focus (first | (go_at_call 14; with_reducible exact far_of (H3.out _)) | (go_at_call 24; with_reducible exact far_of (H4.out _)))); go_big_quiet_on)))
        refine wpQuiet_nil ?_
        rintro _ ⟨xq, rfl⟩
        clear hfar1
        replace HT := Lib.hid (HT.out.belowW xq.below)
        clear fA H3 H4
        by_cases hqm : q < 9223372036854775808
        · have hqm' : (q : Int) < 9223372036854775808 := by omega
          have e2 : h = q := by rw [← Hh2.out]; unfold mostN; omega
          subst e2
          clear Hh2
          by_cases hre : R = 9223372036854775808
          · have e1 : Hid ((9223372036854775807 : Int) = r) := by show _ = _; rw [← Hr.out, hre]; rfl
            have hre' : ((R : Int) == 9223372036854775808) = true := beq_iff_eq.2 (by omega)
            clear Hr hre
            have HTb := Lib.hid (HT.out.alloc (.cells #[.int .u64 9223372036854775807] 22))
            go_wp2_with (at_builtin; refine wpList_append_u64 rfl _ _ rfl (B0 + 1) A2 c2 n (castL (L0.map (repN u v))) rfl hlen2.out HTb.out.own2 _ _ 9223372036854775807 rfl (new_one0 rfl) (by omega) HTb.out.base ?_; intro A3 c3 W3 HO HG HS)
            replace HT := Lib.hid (HTb.out.app2 HO.out HG.out HS.out)
            rw [e1.out] at HT
            rw [← HL.out, ← HR.out] at HT
            go_roundw
            case rel => exact ⟨n + 1, h + 1, L0 ++ [low], A1, c1, A3, c3, by omega, by show _ = _; rw [List.length_append, hLn.out]; rfl, rfl, rfl, by go_num, by omega, by have := HH.out; omega, HT, HC2⟩
            case measure => have := HH.out; simp [intOf]; omega
          · have e1 : r = R := by rw [← Hr.out]; unfold topN; omega
            have hre' : ((R : Int) == 9223372036854775808) = false := beq_eq_false_iff_ne.2 (by omega)
            subst e1
            clear Hr hre
            have HTb := Lib.hid (HT.out.alloc (.cells #[.int .u64 r] 22))
            go_wp2_with (at_builtin; refine wpList_append_u64 rfl _ _ rfl (B0 + 1) A2 c2 n (castL (L0.map (repN u v))) rfl hlen2.out HTb.out.own2 _ _ r rfl (new_one0 rfl) (by omega) HTb.out.base ?_; intro A3 c3 W3 HO HG HS)
            replace HT := Lib.hid (HTb.out.app2 HO.out HG.out HS.out)
            skip
            rw [← HL.out, ← HR.out] at HT
            go_roundw
            case rel => exact ⟨n + 1, h + 1, L0 ++ [low], A1, c1, A3, c3, by omega, by show _ = _; rw [List.length_append, hLn.out]; rfl, rfl, rfl, by go_num, by omega, by have := HH.out; omega, HT, HC2⟩
            case measure => have := HH.out; simp [intOf]; omega
        · have hqm' : ¬ (q : Int) < 9223372036854775808 := by omega
          have e2 : h = 9223372036854775808 := by rw [← Hh2.out]; unfold mostN; omega
          subst e2
          clear Hh2
          by_cases hre : R = 9223372036854775808
          · have e1 : Hid ((9223372036854775807 : Int) = r) := by show _ = _; rw [← Hr.out, hre]; rfl
            have hre' : ((R : Int) == 9223372036854775808) = true := beq_iff_eq.2 (by omega)
            clear Hr hre
            have HTb := Lib.hid (HT.out.alloc (.cells #[.int .u64 9223372036854775807] 22))
            go_wp2_with (at_builtin; refine wpList_append_u64 rfl _ _ rfl (B0 + 1) A2 c2 n (castL (L0.map (repN u v))) rfl hlen2.out HTb.out.own2 _ _ 9223372036854775807 rfl (new_one0 rfl) (by omega) HTb.out.base ?_; intro A3 c3 W3 HO HG HS)
            replace HT := Lib.hid (HTb.out.app2 HO.out HG.out HS.out)
            rw [e1.out] at HT
            rw [← HL.out, ← HR.out] at HT
            go_roundw
            case rel => exact ⟨n + 1, 9223372036854775808 + 1, L0 ++ [low], A1, c1, A3, c3, by omega, by show _ = _; rw [List.length_append, hLn.out]; rfl, rfl, rfl, by go_num, by omega, by have := HH.out; omega, HT, HC2⟩
            case measure => have := HH.out; simp [intOf]; omega
          · have e1 : r = R := by rw [← Hr.out]; unfold topN; omega
            have hre' : ((R : Int) == 9223372036854775808) = false := beq_eq_false_iff_ne.2 (by omega)
            subst e1
            clear Hr hre
            have HTb := Lib.hid (HT.out.alloc (.cells #[.int .u64 r] 22))
            go_wp2_with (at_builtin; refine wpList_append_u64 rfl _ _ rfl (B0 + 1) A2 c2 n (castL (L0.map (repN u v))) rfl hlen2.out HTb.out.own2 _ _ r rfl (new_one0 rfl) (by omega) HTb.out.base ?_; intro A3 c3 W3 HO HG HS)
            replace HT := Lib.hid (HTb.out.app2 HO.out HG.out HS.out)
            skip
            rw [← HL.out, ← HR.out] at HT
            go_roundw
            case rel => exact ⟨n + 1, 9223372036854775808 + 1, L0 ++ [low], A1, c1, A3, c3, by omega, by show _ = _; rw [List.length_append, hLn.out]; rfl, rfl, rfl, by go_num, by omega, by have := HH.out; omega, HT, HC2⟩
            case measure => have := HH.out; simp [intOf]; omega
      · have H4 := Lib.hid (HO4.2 hf)
        have e2 : h = 9223372036854775808 := by rw [← Hh2.out]; exact Hno.out _ hf
        subst e2
        clear HO4 Hno Hh2 hf
        have fA := HT.out.arg
        go_wp2
        have hfar1 := fun x : Far WX => (x.at fA).two
        refine wp_region_far (by kernel_rfl) (by kernel_rfl) ?_
        repeat (first | go_big_quiet_skip | (go_big_quiet_want; go_big_quiet_op; first | go_big_quiet_on | (apply Exists.intro; refine ⟨fun _ => ?_, ?_⟩; (focus (first | (go_at_call 14; with_reducible exact far_of (H3.out _)) | (go_at_call 24; with_reducible exact far_of (H4.out _)))); go_big_quiet_on)))
        refine wpQuiet_nil ?_
        rintro _ ⟨xq, rfl⟩
        clear hfar1
        replace HT := Lib.hid (HT.out.belowW xq.below)
        clear fA H3 H4
        by_cases hre : R = 9223372036854775808
        · have e1 : Hid ((9223372036854775807 : Int) = r) := by show _ = _; rw [← Hr.out, hre]; rfl
          have hre' : ((R : Int) == 9223372036854775808) = true := beq_iff_eq.2 (by omega)
          clear Hr hre
          have HTb := Lib.hid (HT.out.alloc (.cells #[.int .u64 9223372036854775807] 22))
          go_wp2_with (at_builtin; refine wpList_append_u64 rfl _ _ rfl (B0 + 1) A2 c2 n (castL (L0.map (repN u v))) rfl hlen2.out HTb.out.own2 _ _ 9223372036854775807 rfl (new_one0 rfl) (by omega) HTb.out.base ?_; intro A3 c3 W3 HO HG HS)
          replace HT := Lib.hid (HTb.out.app2 HO.out HG.out HS.out)
          rw [e1.out] at HT
          rw [← HL.out, ← HR.out] at HT
          go_roundw
          case rel => exact ⟨n + 1, 9223372036854775808 + 1, L0 ++ [low], A1, c1, A3, c3, by omega, by show _ = _; rw [List.length_append, hLn.out]; rfl, rfl, rfl, by go_num, by omega, by have := HH.out; omega, HT, HC2⟩
          case measure => have := HH.out; simp [intOf]; omega
        · have e1 : r = R := by rw [← Hr.out]; unfold topN; omega
          have hre' : ((R : Int) == 9223372036854775808) = false := beq_eq_false_iff_ne.2 (by omega)
          subst e1
          clear Hr hre
          have HTb := Lib.hid (HT.out.alloc (.cells #[.int .u64 r] 22))
          go_wp2_with (at_builtin; refine wpList_append_u64 rfl _ _ rfl (B0 + 1) A2 c2 n (castL (L0.map (repN u v))) rfl hlen2.out HTb.out.own2 _ _ r rfl (new_one0 rfl) (by omega) HTb.out.base ?_; intro A3 c3 W3 HO HG HS)
          replace HT := Lib.hid (HTb.out.app2 HO.out HG.out HS.out)
          skip
          rw [← HL.out, ← HR.out] at HT
          go_roundw
          case rel => exact ⟨n + 1, 9223372036854775808 + 1, L0 ++ [low], A1, c1, A3, c3, by omega, by show _ = _; rw [List.length_append, hLn.out]; rfl, rfl, rfl, by go_num, by omega, by have := HH.out; omega, HT, HC2⟩
          case measure => have := HH.out; simp [intOf]; omega
    · have hle' : ¬ (low : Int) ≤ 9223372036854775808 := by omega
      have HN : Hid (cellsF u v 4096 1 = some L0) := by
        show _ = _
        rw [hV.out, HC.out]
        unfold cellsF
        rw [if_pos (by unfold mostN; omega)]
        simp
      have hbel := HT.out.below
      have hres : Hid (RcR u v (.returned (.tuple #[.slice A n c, .slice A2 n c2, .bool true])) wr) := by
        show RcR _ _ _ _
        unfold RcR
        rw [HN.out]
        exact ⟨A, c, A2, c2, by rw [hL.out], HT.out.own1.rd, HT.out.own2.rd⟩
      clear hV HC hL HN
      go_wp2
      go_ret3
      exact ⟨hres.out, hbel⟩
end Go.Proofs.Ytghklomcgijdpaa

