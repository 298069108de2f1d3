/- The walk of the statement StripOwn. -/
import Derived.Test.YtekjfbgkoneihaaProg
import Derived.Test.YtekjfbgkoneihaaOpen
import Derived.Test.YtekjfbgkoneihaaAlive08
import Derived.Test.YtekjfbgkoneihaaLoops
namespace Go.Proofs.Ytekjfbgkoneihaa
open Go.RowKit

theorem app_was (W : World) (A : Option Addr) (base cap : Nat) (ps : List (Int × Int)) (h : Own2 base W A cap ps) (hlen : ps.length ≤ 4096) :
    ∃ A' c' w', (Builtin.append_ #[32, 32] 32 #[.slice (some ⟨W.heap.size, 0, none⟩) 0 0, .slice A ps.length cap]).run Try.prog (W.alloc (.cells #[] 35)) = .ok (.slice A' ps.length c') w' ∧
      Own2 W.heap.size w' A' c' ps ∧ Below W.heap.size W w' := by
  cases A with
  | none =>
    have h0 : ps = [] ∧ cap = 0 := by
      rcases h.2 with ⟨h, h0⟩ | ⟨g, cp, cur, h, _⟩
      · simp only [Value.slice.injEq] at h; exact ⟨List.eq_nil_of_length_eq_zero h0, h.2.2⟩
      · simp at h
    obtain ⟨rfl, rfl⟩ := h0
    obtain ⟨i, hi, hz, hsz, hby⟩ := Try.infoPairs
    refine ⟨some ⟨W.heap.size, 0, none⟩, 0, W.alloc (.cells #[] 35), ?_, World.ownsRow_made W #[] 0 (Nat.le_refl _) (Nat.zero_le _) rfl, (Below.refl _ _).alloc (Nat.le_refl _) _⟩
    simp [Builtin.append_, run_underlying Try.underlyingRow, sizeOf, typeInfo, hi, Builtin.firstCells, Builtin.lenOf, storeCells]
  | some a =>
    obtain ⟨g, rfl⟩ : ∃ g, a = ⟨g, 0, none⟩ := by
      rcases h.2 with ⟨h, _⟩ | ⟨g, cp, cur, h, _⟩
      · simp at h
      · simp only [Value.slice.injEq, Option.some.injEq] at h; exact ⟨g, h.1⟩
    exact app_fresh W _ cap ps (fun j u hj => World.ownsRow.cells h (g := g) rfl j u hj) (h.base_le _ rfl).2 (by omega)

/-- A strip, a row to be written to, and a row as it was. -/
structure OwnS (w : World) (b : Nat) (S : List Nat) (most : Int) (ps : List (Int × Int)) (A : Option Addr) (cap : Nat) (Wa : Option Addr) : Prop where
  st : Strip w b S most ps
  row : ∃ xs, w.ownsRow 0 35 2 (.slice A ps.length cap) ps.length xs
  was : RdP w Wa ps
theorem OwnS.set {w : World} {b g cap o : Nat} {S : List Nat} {most : Int} {ps : List (Int × Int)} {Wa : Option Addr} (h : OwnS w b S most ps (some ⟨g, 0, none⟩) cap Wa) (hS : g ∉ S) (hW : g ∉ blk Wa) (ho : o < ps.length * 2) (v : Value) :
    OwnS (w.setCell ⟨g, o, none⟩ v) b S most ps (some ⟨g, 0, none⟩) cap Wa := by
  obtain ⟨xs, hx⟩ := h.row
  refine ⟨h.st.frame (Frame.set [g] w g o v (by simp)) (fun k hk e => by simp at e; subst e; exact hS hk), ⟨_, own_setCell hx ho v⟩, ?_⟩
  exact Frame.rd (Frame.set [g] w g o v (by simp)) h.was (fun a e hm => by simp at hm; subst e; exact hW (by simp [blk, hm]))
theorem OwnS.frz {w : World} {b g cap : Nat} {S : List Nat} {most : Int} {ps : List (Int × Int)} {Wa : Option Addr} (h : OwnS w b S most ps (some ⟨g, 0, none⟩) cap Wa) (o : Nat) : w.frozen? ⟨g, o, none⟩ = false := by
  obtain ⟨xs, hx⟩ := h.row
  obtain ⟨cur, hcg, _⟩ := own_setRow w hx
  simp [World.frozen?, hcg]
theorem OwnS.cl {w : World} {b g cap : Nat} {S : List Nat} {most : Int} {ps : List (Int × Int)} {Wa : Option Addr} (h : OwnS w b S most ps (some ⟨g, 0, none⟩) cap Wa) (o : Nat) (ho : o < ps.length * 2) : ∃ v, w.cell? ⟨g, o, none⟩ = some v := by
  obtain ⟨xs, hx⟩ := h.row
  have hl := hx.1
  exact ⟨xs[o]'(by omega), by
    have := World.ownsRow.cells hx (g := g) rfl o _ (List.getElem?_eq_getElem (by omega))
    rw [Addr.add_lit, Nat.zero_add] at this
    exact this⟩
set_option maxHeartbeats 2000000 in
theorem stripOwn_walk (w : World) (most : Int) (bdmost : -9223372036854775808 ≤ most ∧ most ≤ 9223372036854775807) (Ascript : Option Addr) (cscript : Nat) (script : List (Int × Int × Int)) (rscript : Rd w Ascript (script.flatMap fun x => [.int .i64 x.1, .int .i64 x.2.1, .int .u64 x.2.2])) (bdscript : ∀ x ∈ script, (-9223372036854775808 ≤ x.1 ∧ x.1 ≤ 9223372036854775807) ∧ (-9223372036854775808 ≤ x.2.1 ∧ x.2.1 ≤ 9223372036854775807) ∧ (0 ≤ x.2.2 ∧ x.2.2 < 18446744073709551616)) (lscript : script.length ≤ 9223372036854775807) (n : Int) (bdn : 0 ≤ n ∧ n < 18446744073709551616) :
    Calls Try.prog 3 #[.int .i64 most, .slice Ascript script.length cscript, .int .u64 n] w fun e w' => e = .returned (.bool true) ∧ Below w.heap.size w w' := by
  obtain ⟨h1, h2⟩ := bdmost
  obtain ⟨h3, h4⟩ := bdn
  have HR : Hid (RdC w Ascript script) := rscript
  have HO : Hid (okC script) := bdscript
  clear rscript bdscript
  obtain ⟨len, hlen⟩ : ∃ len, script.length = len := ⟨_, rfl⟩
  rw [hlen] at lscript ⊢
  go_enter Try.func3, Try.ntmps3
  go_wp2_with fail
  refine (alive_any _).mono ?_
  rintro e w1 ⟨rfl, hb1⟩
  by_cases hl : 100 < len
  · have hl' : (100 : Int) < len := by omega
    go_wp2
    go_ret
    exact ⟨rfl, hb1⟩
  have hl' : ¬ (100 : Int) < len := by omega
  by_cases hm1 : most < 1
  · go_wp2
    go_ret
    exact ⟨rfl, hb1⟩
  by_cases hm2 : 4096 < most
  · go_wp2
    go_ret
    exact ⟨rfl, hb1⟩
  go_wp2_with fail
  refine (snew_any most w1 (by omega) (by omega)).mono ?_
  rintro e w2 ⟨⟨b, rfl, hbe, hC⟩, hb⟩
  obtain ⟨B, hBe⟩ : ∃ B, w1.heap.size = B := ⟨_, rfl⟩
  have hT : Two B w1 w2 [b] [] (Strip w2 b [b] most []) True := by
    have hlt := hC.lt b (by simp)
    have z1 := hb.size
    subst hBe
    refine ⟨hC, trivial, fun k hk => ?_, fun k hk => by simp at hk, fun k hk hn => by simp at hn, hb, z1⟩
    rw [List.mem_singleton] at hk; subst hk; omega
  clear hC hb hbe hl hm1 hm2 h1 h2
  go_wp2
  go_loopw [10, 34] (fun _ i wr => ∃ k : Nat, ∃ S, k ≤ len ∧ i = .int .i64 k ∧ Hid (Two B w1 wr S [] (Strip wr b S most (rowsS most (script.take k))) True)) (fun _ i _ => len - (intOf i).toNat)
  case atStart => exact ⟨0, [b], by omega, rfl, hT⟩
  case round =>
    obtain ⟨k, S, hk, rfl, H⟩ := hrel
    by_cases hlt : k < len
    · obtain ⟨g, o, rfl, hg, c1, c2, c3⟩ := ((HR.out.below hb1).below (hBe ▸ H.out.below)).at k (by omega)
      obtain ⟨⟨a1, a2⟩, ⟨b1, b2⟩, b3, b4⟩ := HO.out.at k (by omega)
      have HS := Lib.hid (rowsS_take most script k (by omega))
      obtain ⟨⟨kd, x, y⟩, hx⟩ : ∃ x, script[k]'(by omega) = x := ⟨_, rfl⟩
      rw [hx] at c1 c2 c3 a1 a2 b1 b2 b3 b4 HS
      clear hx
      dsimp only at c1 c2 c3 a1 a2 b1 b2 b3 b4 HS
      have zH := H.out.size
      have HZ := fun h : Below wr.heap.size wr (wr.alloc (.cells #[.int .i64 kd, .int .i64 x, .int .u64 y] 30)) => Lib.hid (H.out.belowW h (fun k => k.below h) (fun k => k))
      replace HZ := HZ ((Below.refl _ _).alloc (Nat.le_refl _) _)
      go_wp2_with fail
      refine (sadd_any b S most _ x y _ HZ.out.x b3 b4 ⟨b1, b2⟩).mono ?_
      rintro e w4 ⟨rfl, S3, hg3, hC3, hF3⟩
      have H3 := Lib.hid (HZ.out.stepX hg3 hC3 hC3.lt hF3 trivial)
      rw [← HS.out] at H3
      clear HZ hF3 hg3 hC3 H HS
      go_wp2
      go_roundw
      case rel => exact ⟨k + 1, S3, by omega, by simp, H3⟩
      case measure => simp [intOf]; omega
    · obtain rfl : k = len := by omega
      have H1 := H.out
      rw [List.take_of_length_le (by omega)] at H1
      replace H1 := Lib.hid H1
      clear H HO hT HR
      obtain ⟨ps, hps⟩ : ∃ ps, rowsS most script = ps := ⟨_, rfl⟩
      rw [hps] at H1
      clear hps
      have HL := Lib.hid H1.out.x.len
      go_wp2_with fail
      refine (spairs_any b S most ps wr H1.out.x).mono ?_
      rintro e w5 ⟨A, cap, rfl, HA, hb⟩
      obtain ⟨Wa, cw, w6, hr, hWa, hb6⟩ := app_was w5 A wr.heap.size cap ps HA (by have := HL.out; omega)
      have HA6 := HA.below hb6
      have hb56 := keep1 hb hb6
      have hAb : ∀ k ∈ blk A, wr.heap.size ≤ k ∧ k < w5.heap.size := fun k hk => by
        cases A with
        | none => simp [blk] at hk
        | some a => simp only [blk, List.mem_singleton] at hk; subst hk; exact HA.base_le a rfl
      have hWb : ∀ k ∈ blk Wa, w5.heap.size ≤ k ∧ k < w6.heap.size := fun k hk => by
        cases Wa with
        | none => simp [blk] at hk
        | some a => simp only [blk, List.mem_singleton] at hk; subst hk; exact hWa.base_le a rfl
      have hO : Hid (OwnS w6 b S most ps A cap Wa) := ⟨H1.out.x.below hb56, ⟨_, HA6.mono (Nat.zero_le _)⟩, hWa.rd⟩
      have hAS : Hid (∀ k ∈ blk A, k ∉ S ∧ k ∉ blk Wa ∧ B ≤ k) := fun k hk => ⟨fun hm => by have := (H1.out.ws k hm).2; have := (hAb k hk).1; omega, fun hm => by have := (hWb k hm).1; have := (hAb k hk).2; omega, Nat.le_trans H1.out.size (hAb k hk).1⟩
      have hbF : Hid (Below B w1 w6) := H1.out.fin hb56
      have hr' := Lib.hid hr
      have hz6 : B ≤ w6.heap.size := Nat.le_trans H1.out.size hb56.size
      have hnone : Hid (A = none → ps.length = 0) := fun hA => by
        rcases HA.2 with ⟨h, h0⟩ | ⟨g, cp, cur, h, _⟩
        · exact h0
        · rw [hA] at h; simp at h
      have hA0 : Hid (∀ a, A = some a → ∃ g, a = ⟨g, 0, none⟩) := fun a hA => by
        rcases HA.2 with ⟨h, h0⟩ | ⟨g, cp, cur, h, _⟩
        · rw [hA] at h; simp at h
        · rw [hA] at h; simp only [Value.slice.injEq, Option.some.injEq] at h; exact ⟨g, h.1⟩
      clear hr hWa hb6 HA6 hb56 hAb hWb HA hb H1
      obtain ⟨m, hm⟩ : ∃ m, ps.length = m := ⟨_, rfl⟩
      have HM := Lib.hid hm
      rw [hm] at hr' ⊢
      have hln : m ≤ 4096 := by have := HL.out; omega
      clear hm
      go_wp2_with (at_builtin; refine Lib.wpList_append_run _ rfl _ _ _ _ rfl _ _ rfl rfl _ _ hr'.out ?_)
      clear hr'
      go_loopw [13, 52] (fun _ i wv => ∃ j : Nat, j ≤ m ∧ i = .int .i64 j ∧ Hid (OwnS wv b S most ps A cap Wa) ∧ Hid (Below B w1 wv) ∧ B ≤ wv.heap.size) (fun _ i _ => m - (intOf i).toNat)
      case atStart => exact ⟨0, by omega, rfl, hO, hbF, hz6⟩
      case round =>
        obtain ⟨j, hj, rfl, HO, HB, hz⟩ := hrel
        by_cases hjt : j < m
        · obtain ⟨g, rfl⟩ : ∃ g, A = some ⟨g, 0, none⟩ := by
            cases A with
            | none => have := hnone.out rfl; have := HM.out; omega
            | some a => obtain ⟨g, rfl⟩ := hA0.out a rfl; exact ⟨g, rfl⟩
          have q := hAS.out g (by simp [blk])
          have i1 : j * 2 + 1 < ps.length * 2 := by have := HM.out; omega
          have i0 : j * 2 < ps.length * 2 := by have := HM.out; omega
          have O1 := Lib.hid (HO.out.set q.1 q.2.1 i1 (.int .u64 n))
          have O2 := Lib.hid (O1.out.set q.1 q.2.1 i0 (.int .i64 0))
          have z1 := HO.out.frz (j * 2 + 1)
          have z2 := O1.out.frz (j * 2)
          obtain ⟨v1, y1⟩ := HO.out.cl (j * 2 + 1) i1
          obtain ⟨v2, y2⟩ := O1.out.cl (j * 2) i0
          have j0 : (0 : Int) ≤ j := by omega
          have j1 : (j : Int) < m := by omega
          have HB2 : Hid (Below B w1 ((wr.setCell ⟨g, j * 2 + 1, none⟩ (.int .u64 n)).setCell ⟨g, j * 2, none⟩ (.int .i64 0))) := (HB.out.setCell q.2.2 _).setCell q.2.2 _
          clear q i1 i0 HO O1 HB hO hbF
          go_wp2
          go_roundw
          case rel => exact ⟨j + 1, by omega, by simp, O2, HB2, by simpa [World.setCell] using hz⟩
          case measure => simp [intOf]; omega
        · obtain rfl : j = m := by omega
          clear hO hbF
          go_wp2_with fail
          refine (spairs_any b S most ps wr HO.out.st).mono ?_
          rintro e w7 ⟨A2, cap2, rfl, hA2, hb7⟩
          have HR2 := Lib.hid hA2.rd
          have HW2 := Lib.hid (RdP.below HO.out.was hb7)
          have HB2 : Hid (Below B w1 w7) := HB.out.trans (hb7.mono hz)
          have hz7 := hb7.size
          clear hA2 hb7 HO HB
          go_wp2_with fail
          refine (same_any A2 Wa ps.length cap2 j cw ps ps w7 rfl HM.out (by have := HL.out; omega) (by omega) HR2.out HW2.out).mono ?_
          rintro e w8 ⟨rfl, hb8⟩
          rw [show decide (ps = ps) = true by simp]
          go_wp2
          go_ret
          exact ⟨rfl, hb1.trans ((HB2.out.trans (hb8.mono (by omega))).mono (by have := hb1.size; omega))⟩
end Go.Proofs.Ytekjfbgkoneihaa

