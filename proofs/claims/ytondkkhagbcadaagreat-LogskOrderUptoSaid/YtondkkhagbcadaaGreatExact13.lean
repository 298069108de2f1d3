/- Contracts of the document's bins: Total, Exact. -/
import Derived.Test.YtondkkhagbcadaaGreatProg
import Derived.Test.YtondkkhagbcadaaGreatBins13
namespace Go.Proofs.YtondkkhagbcadaaGreat
open Go.RowKit

theorem btotal_any (m : Nat) (lows reps : Value) (digits side most : Int) (A : Option Addr) (len cap : Nat) (l : List (Int × Int)) (w : World) (h : BinsAt w m lows reps digits side most A len cap) (hl : l.length = len) (hm : len ≤ 1000000) (hR : RdP w A l) (hp : ∀ x ∈ l, 0 < x.2) (hs : sumP l ≤ 9223372036854775807) :
    Calls Tryz.prog 14 #[.pointer (some ⟨m, 0, none⟩)] w fun e w' => e = .returned (.int .u64 (sumP l)) ∧ Below w.heap.size w w' := by
  have HR := Lib.hid hR
  have H := Lib.hid hp
  have HS := Lib.hid hs
  have HL := Lib.hid hl
  have f1 := At.six h
  have l1 := At.lt h
  clear hR hp hs hl h
  go_enter Tryz.func14, Tryz.ntmps14
  go_wp2
  clear f1
  go_loopw [3, 5, 11] (fun n _ i wr => ∃ k : Nat, ∃ p : Int, k ≤ len ∧ i = .int .i64 k ∧ n = .int .u64 p ∧ 0 ≤ p ∧ Hid (p = sumP (l.take k)) ∧ Below w.heap.size w wr) (fun _ _ i _ => len - (intOf i).toNat)
  case atStart => exact ⟨0, 0, by omega, rfl, rfl, by omega, rfl, Below.refl _ _⟩
  case round =>
    obtain ⟨k, p, hk, rfl, rfl, hp, HP, hB⟩ := hrel
    have zB := hB.size
    by_cases hlt : k < len
    · obtain ⟨g, o, rfl, hg, c1, c2⟩ := (HR.out.below hB).at k (by have := HL.out; omega)
      have H1 := Lib.hid (sumP_take l k (by have := HL.out; omega))
      have H3 := Lib.hid (vsum_take H.out (k + 1)).2
      have H4 := Lib.hid (H.out _ (List.getElem_mem (show k < l.length by have := HL.out; omega)))
      obtain ⟨⟨y1, y2⟩, hy⟩ : ∃ y, l[k]'(by have := HL.out; omega) = y := ⟨_, rfl⟩
      rw [hy] at c1 c2 H1 H4
      clear hy HR
      dsimp only at c1 c2 H1 H4
      have wa : IntKind.u64.wrap (p + y2) = p + y2 := by have h1 := H1.out; have h3 := HP.out; have h4 := H3.out; have h5 := HS.out; have h6 := H4.out; simp only [IntKind.wrap_u64]; omega
      go_wp2
      go_roundw
      case rel => exact ⟨k + 1, p + y2, by omega, by simp, rfl, by have := H4.out; omega, by have h1 := H1.out; have h2 := HP.out; show _ = _; omega, (by repeat (first | with_reducible assumption | with_reducible exact Below.refl _ _ | with_reducible refine Below.drew ?_ | with_reducible refine Below.drewN ?_ _ | with_reducible refine Below.setCell ?_ (by first | omega | (simp; done) | (simp; omega)) _ | with_reducible refine Below.alloc ?_ (by first | omega | (simp; done) | (simp; omega) | (simp [World.setCell]; omega)) _))⟩
      case measure => simp [intOf]; omega
    · obtain rfl : k = len := by omega
      have h1 := HP.out
      rw [List.take_of_length_le (by have := HL.out; omega)] at h1
      have H1 := Lib.hid h1
      clear HR HP h1
      go_wp2
      go_ret
      exact ⟨by rw [← H1.out]; rfl, hB⟩

theorem find_first {p : Int × Int → Bool} {l : List (Int × Int)} {k : Nat} (hk : k < l.length) (h0 : ∀ v ∈ l.take k, p v = false) (h1 : p (l[k]'hk) = true) : l.find? p = some (l[k]'hk) := by
  have e : l = l.take k ++ (l[k]'hk) :: l.drop (k + 1) := by rw [← List.drop_eq_getElem_cons hk, List.take_append_drop]
  conv => lhs; rw [e]
  rw [List.find?_append, List.find?_eq_none.2 fun v hv => by rw [h0 v hv]; decide, Option.none_or, List.find?_cons, h1]
set_option maxRecDepth 100000 in
set_option maxHeartbeats 2000000 in
theorem exact_any (A : Option Addr) (len cap : Nat) (l : List (Int × Int)) (t : Int) (w : World) (hl : l.length = len) (hm : len ≤ 1000000) (hR : RdP w A l) (hp : ∀ x ∈ l, 0 < x.2) (hs : sumP l ≤ 9223372036854775807) :
    Calls Tryz.prog 15 #[.slice A len cap, .int .u64 t] w fun e w' => e = .returned (.tuple #[.int .i64 ((exactV l t).getD 0), .bool (exactV l t).isSome]) ∧ Below w.heap.size w w' := by
  have HR := Lib.hid hR
  have H := Lib.hid hp
  have HS := Lib.hid hs
  have HL := Lib.hid hl
  have HE : Hid (exactV l t = (l.find? fun v => decide (lessV l v.1 < t ∧ t ≤ lessV l v.1 + sameV l v.1)).map fun v => v.1) := rfl
  clear hR hp hs hl
  go_enter Tryz.func15, Tryz.ntmps15
  go_wp2
  go_loopw [7, 8, 9, 11, 14, 20] (fun _ _ _ _ i _ wr => ∃ k : Nat, k ≤ len ∧ i = .int .i64 k ∧ Hid (∀ v ∈ l.take k, decide (lessV l v.1 < t ∧ t ≤ lessV l v.1 + sameV l v.1) = false) ∧ Below w.heap.size w wr) (fun _ _ _ _ i _ _ => len - (intOf i).toNat)
  case atStart => exact ⟨0, by omega, rfl, fun v hv => by simp at hv, Below.refl _ _⟩
  case round =>
    obtain ⟨k, hk, rfl, HF, hB⟩ := hrel
    obtain ⟨wo, hwo⟩ : ∃ wo, wr = wo := ⟨_, rfl⟩
    rw [hwo] at hB ⊢
    have zB := hB.size
    by_cases hlt : k < len
    · obtain ⟨g, o, rfl, hg, c1, c2⟩ := (HR.out.below hB).at k (by have := HL.out; omega)
      have HKL : Hid (k < l.length) := by have := HL.out; show _ < _; omega
      have HFF := Lib.hid (fun h => find_first (p := fun v => decide (lessV l v.1 < t ∧ t ≤ lessV l v.1 + sameV l v.1)) HKL.out HF.out h)
      have HTK : Hid (l.take (k + 1) = l.take k ++ [l[k]'HKL.out]) := List.take_succ_eq_append_getElem HKL.out
      obtain ⟨⟨x, y⟩, hx⟩ : ∃ x, l[k]'HKL.out = x := ⟨_, rfl⟩
      rw [hx] at c1 c2 HFF HTK
      dsimp only at c1 c2 HFF
      clear hx
      have aX := At.new' wo #[.int .i64 x, .int .u64 y] 48 rfl
      have hba : Below w.heap.size w (wo.alloc (.cells #[.int .i64 x, .int .u64 y] 48)) := hB.alloc (by omega) _
      go_wp2
      obtain ⟨xB, hxB⟩ : ∃ b, wo.heap.size = b := ⟨_, rfl⟩
      rw [hxB] at aX
      simp only [hxB]
      have HXB := Lib.hid hxB
      generalize wo.alloc (.cells #[.int .i64 x, .int .u64 y] 48) = W1 at aX hba ⊢
      have zx := aX.lt
      clear hxB c1 c2
      have HRW := Lib.hid (HR.out.below hba)
      have HW1 := Lib.hid (And.intro hba aX)
      go_loopw [8, 9, 11, 20] (fun u s _ i wi => ∃ j : Nat, ∃ p q : Int, j ≤ len ∧ i = .int .i64 j ∧ u = .int .u64 p ∧ s = .int .u64 q ∧ 0 ≤ p ∧ 0 ≤ q ∧ Hid (p = lessV (l.take j) x ∧ q = sameV (l.take j) x) ∧ Hid (Below W1.heap.size W1 wi)) (fun _ _ _ i _ => len - (intOf i).toNat)
      case atStart => exact ⟨0, 0, 0, by omega, rfl, rfl, rfl, by omega, by omega, ⟨rfl, rfl⟩, Below.refl _ _⟩
      case round =>
        obtain ⟨j, p, q, hj, rfl, rfl, rfl, hp0, hq0, HPQ, HB2⟩ := hrel
        clear aX hba
        have a2 := HW1.out.2.below HB2.out
        have f2 := a2.two
        have l2 := a2.lt
        have z2 := HB2.out.size
        by_cases hjt : j < len
        · obtain ⟨g', o', e, hg', d1, d2⟩ := (HRW.out.below HB2.out).at j (by have := HL.out; omega)
          cases e
          have H1 := Lib.hid (sumP_filter_take l (fun v => decide (v.1 < x)) j (by have := HL.out; omega))
          have H2 := Lib.hid (sumP_filter_take l (fun v => decide (v.1 = x)) j (by have := HL.out; omega))
          have H3 := Lib.hid (Int.le_trans (vsum_filter (l := l.take (j + 1)) (fun x hx => H.out x (List.mem_of_mem_take hx)) (fun v => decide (v.1 < x))).2 (Int.le_trans (vsum_take H.out (j + 1)).2 HS.out))
          have H3' := Lib.hid (Int.le_trans (vsum_filter (l := l.take (j + 1)) (fun x hx => H.out x (List.mem_of_mem_take hx)) (fun v => decide (v.1 = x))).2 (Int.le_trans (vsum_take H.out (j + 1)).2 HS.out))
          have H4 := Lib.hid (H.out _ (List.getElem_mem (show j < l.length by have := HL.out; omega)))
          obtain ⟨⟨y1, y2⟩, hy⟩ : ∃ y, l[j]'(by have := HL.out; omega) = y := ⟨_, rfl⟩
          rw [hy] at d1 d2 H1 H2 H4
          dsimp only at d1 d2 H1 H2 H4
          clear hy
          by_cases hlt2 : y1 < x
          · rw [if_pos (decide_eq_true hlt2)] at H1
            rw [if_neg (by simp; omega)] at H2
            have hne : (y1 == x) = false := beq_eq_false_iff_ne.2 (by omega)
            have wa : IntKind.u64.wrap (p + y2) = p + y2 := by have h1 := H1.out; have h2 := H3.out; have h3 := HPQ.out.1; have h6 := H4.out; unfold lessV at h3; simp only [IntKind.wrap_u64]; omega
            have HN : Hid (p + y2 = lessV (l.take (j + 1)) x ∧ q = sameV (l.take (j + 1)) x) := by have h1 := H1.out; have h2 := H2.out; have h3 := HPQ.out; unfold lessV sameV at *; constructor <;> omega
            have hpp : 0 ≤ p + y2 := by have := H4.out; omega
            clear H1 H2 H3 H3' H4
            go_wp2
            go_roundw
            case rel => exact ⟨j + 1, p + y2, q, by omega, by simp, rfl, rfl, hpp, hq0, HN, HB2.out.alloc (by omega) _⟩
            case measure => simp [intOf]; omega
          · by_cases he : y1 = x
            · subst he
              rw [if_neg (by simp)] at H1
              rw [if_pos (by simp)] at H2
              have wa : IntKind.u64.wrap (q + y2) = q + y2 := by have h1 := H2.out; have h2 := H3'.out; have h3 := HPQ.out.2; have h6 := H4.out; unfold sameV at h3; simp only [IntKind.wrap_u64]; omega
              have HN : Hid (p = lessV (l.take (j + 1)) y1 ∧ q + y2 = sameV (l.take (j + 1)) y1) := by have h1 := H1.out; have h2 := H2.out; have h3 := HPQ.out; unfold lessV sameV at *; constructor <;> omega
              have hpp : 0 ≤ q + y2 := by have := H4.out; omega
              clear H1 H2 H3 H3' H4
              go_wp2
              go_roundw
              case rel => exact ⟨j + 1, p, q + y2, by omega, by simp, rfl, rfl, hp0, hpp, HN, HB2.out.alloc (by omega) _⟩
              case measure => simp [intOf]; omega
            · rw [if_neg (by simpa using hlt2)] at H1
              rw [if_neg (by simpa using he)] at H2
              have hne : (y1 == x) = false := beq_eq_false_iff_ne.2 he
              have HN : Hid (p = lessV (l.take (j + 1)) x ∧ q = sameV (l.take (j + 1)) x) := by have h1 := H1.out; have h2 := H2.out; have h3 := HPQ.out; unfold lessV sameV at *; constructor <;> omega
              clear H1 H2 H3 H3' H4
              go_wp2
              go_roundw
              case rel => exact ⟨j + 1, p, q, by omega, by simp, rfl, rfl, hp0, hq0, HN, HB2.out.alloc (by omega) _⟩
              case measure => simp [intOf]; omega
        · obtain rfl : j = len := by omega
          have h1 := HPQ.out
          rw [List.take_of_length_le (by have := HL.out; omega)] at h1
          have HPQ2 := Lib.hid h1
          have hsum : p + q ≤ 9223372036854775807 := by
            have e := upV_split l x
            have := (vsum_filter H.out (fun v => decide (v.1 ≤ x))).2
            have := HS.out
            unfold upV at e
            omega
          have hw : IntKind.u64.wrap (p + q) = p + q := by simp only [IntKind.wrap_u64]; omega
          have HBW : Hid (Below w.heap.size w wr) := HW1.out.1.trans (HB2.out.mono (HW1.out.1.size))
          by_cases hc : p < t ∧ t ≤ p + q
          · have hd1 : decide (p < t) = true := decide_eq_true hc.1
            have hd2 : decide (t ≤ p + q) = true := decide_eq_true hc.2
            have HV : Hid (exactV l t = some x) := by
              show _ = _
              rw [HE.out, HFF.out (by rw [← HPQ2.out.1, ← HPQ2.out.2]; exact decide_eq_true hc)]
              rfl
            clear hc HFF HTK HF h1 HRW HPQ HE
            go_wp2
            go_ret2
            exact ⟨by rw [HV.out]; rfl, HBW.out⟩
          · have HF2 : Hid (∀ v ∈ l.take (k + 1), decide (lessV l v.1 < t ∧ t ≤ lessV l v.1 + sameV l v.1) = false) := by
              intro v hv
              rw [HTK.out] at hv
              rcases List.mem_append.1 hv with hv | hv
              · exact HF.out v hv
              · rw [List.mem_singleton] at hv
                subst hv
                dsimp only
                rw [← HPQ2.out.1, ← HPQ2.out.2]
                exact decide_eq_false hc
            by_cases hc1 : p < t
            · have hd1 : decide (p < t) = true := decide_eq_true hc1
              have hd2 : decide (t ≤ p + q) = false := decide_eq_false (by omega)
              clear hc hc1 HFF HTK HF h1 HRW HPQ
              go_wp2
              go_roundw
              case rel => exact ⟨k + 1, by omega, by simp, HF2, HBW.out⟩
              case measure => simp [intOf]; omega
            · have hd1 : decide (p < t) = false := decide_eq_false hc1
              clear hc hc1 HFF HTK HF h1 HRW HPQ
              go_wp2
              go_roundw
              case rel => exact ⟨k + 1, by omega, by simp, HF2, HBW.out⟩
              case measure => simp [intOf]; omega
    · obtain rfl : k = len := by omega
      have HV : Hid (exactV l t = none) := by
        have h1 := HF.out
        rw [List.take_of_length_le (by have := HL.out; omega)] at h1
        show _ = _
        rw [HE.out, List.find?_eq_none.2 fun v hv => by rw [h1 v hv]; decide]
        rfl
      clear HF HR HE
      go_wp2
      go_ret2
      exact ⟨by rw [HV.out]; rfl, hB⟩
end Go.Proofs.YtondkkhagbcadaaGreat
