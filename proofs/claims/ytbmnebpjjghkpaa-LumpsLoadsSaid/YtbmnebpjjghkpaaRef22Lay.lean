/- Contract of the document's lumps: Lay. -/
import Derived.Test.YtbmnebpjjghkpaaProg
import Derived.Test.YtbmnebpjjghkpaaRef22
namespace Go.Proofs.Ytbmnebpjjghkpaa
open Go.RowKit

theorem lfilter_take_yes {ls : List Lu} {p : Lu → Bool} {k : Nat} {x : Lu} (hk : k < ls.length) (h : ls[k]'hk = x) (hp : p x = true) : (ls.take (k + 1)).filter p = (ls.take k).filter p ++ [x] := by
  subst h; rw [lfilter_take ls p k hk, if_pos hp]
theorem lfilter_take_no {ls : List Lu} {p : Lu → Bool} {k : Nat} {x : Lu} (hk : k < ls.length) (h : ls[k]'hk = x) (hp : p x = false) : (ls.take (k + 1)).filter p = (ls.take k).filter p := by
  subst h; rw [lfilter_take ls p k hk, if_neg (by rw [hp]; decide), List.append_nil]

theorem wpList_append_lumpD2 {ops : Array Oper} {rest : List Oper} {o : Oper} {a : Act} {Q : Exit → Act → World → Prop} {w : World} (hgd : o.guard = none) (s x : Operand)
    (ho : o.op = .call { callee := .builtin .append, args := #[s, x], argTypes := #[34, 34] })
    (base : Nat) (A : Option Addr) (cap n : Nat) (ls : List Lu) (hs : a.eval s = .slice A n cap) (hn : ls.length = n) (hown : Own3D base w A cap ls)
    (ad : Addr) (c : Nat) (p : Lu) (hx : a.eval x = .slice (some ad) 1 c) (h0 : w.cell? (ad.add 0) = some (.int .u64 p.1)) (h1 : w.cell? (ad.add 1) = some (.int .i64 p.2.1)) (h2 : w.cell? (ad.add 2) = some (.int .i64 p.2.2))
    (hlen : n ≤ 1099511627775) (hbase : base ≤ w.heap.size)
    (h : ∀ A' cap' w', Hid (Own3D base w' A' cap' (ls ++ [p])) → Hid (w.grownBy w' (Value.slice A n cap).ownBlock) → wpList Try.prog ops Q rest (a.put o.dst (.slice A' (n + 1) cap')) w') :
    wpList Try.prog ops Q (o :: rest) a w := by
  subst hn
  obtain ⟨i, hi, hz, hsz, hby⟩ := Try.infoLumpD
  refine wpList_append_own_at w hgd s x _ ho base _ i _ 3 24 Try.underlyingRowD hi hz hsz hby rfl (by decide) _ ls.length (flatL ls) hs hown ad 1 c (flatL [p]) hx (flatL_len _) ?_ flatL_one' (by simp only [maxLen]; omega) (by omega) hbase ?_
  · intro j u hj
    match j, hj with
    | 0, hj => simp [flatL] at hj; subst hj; exact h0
    | 1, hj => simp [flatL] at hj; subst hj; exact h1
    | 2, hj => simp [flatL] at hj; subst hj; exact h2
  · intro v' w' hown' hg _ _
    rw [← flatL_append] at hown'
    have hl : (ls ++ [p]).length = ls.length + 1 := by simp
    rcases hown'.2 with ⟨e, hn⟩ | ⟨g, cp, cur, rfl, r⟩
    · omega
    · exact h _ _ _ (by show Own3D _ _ _ _ _; unfold Own3D; rw [hl]; exact hown') hg
theorem At.appD {W W' : World} {A : Option Addr} {n c k : Nat} {cs : Array Value} {T : TypeId} (h : At W k cs T) (hg : W.grownBy W' (Value.slice A n c).ownBlock) (hn : some k ≠ (Value.slice A n c).ownBlock) : At W' k cs T := (hg.block k h.lt hn).trans h
theorem own3D_ne {W : World} {base n c : Nat} {A : Option Addr} {xs : List Lu} (h : Own3D base W A c xs) {k : Nat} (hk : k < base) : some k ≠ (Value.slice A n c).ownBlock := by
  intro e
  cases A with
  | none => simp [Value.ownBlock] at e
  | some g => simp only [Value.ownBlock, Option.some.injEq] at e; have := (h.base_le g rfl).1; omega
theorem own3D_ne2 {W : World} {base n c : Nat} {A : Option Addr} {xs : List Lu} (h : Own3D base W A c xs) {k : Nat} (hk : W.heap.size ≤ k) : some k ≠ (Value.slice A n c).ownBlock := by
  intro e
  cases A with
  | none => simp [Value.ownBlock] at e
  | some g => simp only [Value.ownBlock, Option.some.injEq] at e; have := (h.base_le g rfl).2; omega
theorem DLay.own_ne {w wr : World} {B : Nat} {y l2 l3 : Int} {A : Option Addr} {c n : Nat} {out : List Lu} (h : DLay w wr B y l2 l3 A c n out) : ∀ k, k < B + 1 → some k ≠ (Value.slice A n c).ownBlock := fun _ hk => own3D_ne h.own hk
/-- A row more behind the append. -/
theorem DLay.appG {w wr w' : World} {B : Nat} {y l2 l3 : Int} {A A' : Option Addr} {c c' n n' : Nat} {out out' : List Lu} (h : DLay w wr B y l2 l3 A c n out) (ho : Own3D (B + 1) w' A' c' out') (hn : out'.length = n') (hg : wr.grownBy w' (Value.slice A n c).ownBlock) : DLay w w' B y l2 l3 A' c' n' out' :=
  ⟨h.box.appD hg (h.own_ne B (by omega)), ho, hn, h.below.grown hg h.below.size (fun k hk => by
    cases A with
    | none => simp [Value.ownBlock] at hk
    | some g => simp only [Value.ownBlock, Option.some.injEq] at hk; have := (h.own.base_le g rfl).1; have := h.le; omega), h.le⟩

set_option maxRecDepth 100000 in
set_option maxHeartbeats 2000000 in
theorem dklay_any (m : Nat) (S : List Nat) (most : Int) (ls : List Lu) (l1 l2 l3 : Int) (w : World) (h : DocK w m S most ls) (hg : GdL ls) (h1 : 0 < l1) (hs : sumN ls + l1 ≤ 9223372036854775807) (hl : ls.length ≤ 1048576) :
    Calls Try.prog 37 #[.pointer (some ⟨m, 0, none⟩), .agg #[.int .u64 l1, .int .i64 l2, .int .i64 l3]] w fun e w' => e = .returned (.tuple #[]) ∧ DocKR m S most (laid ls (l1, l2, l3)) w w' := by
  have HLTS := Lib.hid h.lt
  have HGR := Lib.hid (fun (w' : World) (hf : Below w.heap.size w w') => h.below hf)
  obtain ⟨A, c, hSm, hB⟩ := h
  have HSM := Lib.hid hSm
  have s1 := hB.at'
  have HR := Lib.hid hB.own.rd
  have HG := Lib.hid hg
  have HS := Lib.hid (And.intro h1 hs)
  obtain ⟨len, hlen⟩ : ∃ n, ls.length = n := ⟨_, rfl⟩
  have HLN := Lib.hid hlen
  rw [hlen] at s1 hl
  have hm := s1.lt
  have HS1 := Lib.hid s1
  clear hB hg hs h1 hlen hSm
  go_enter Try.func37, Try.ntmps37
  obtain ⟨B, hBe⟩ : ∃ B, w.heap.size = B := ⟨_, rfl⟩
  have HD : Hid (DLay w (w.alloc (.cells #[.int .u64 l1, .int .i64 l2, .int .i64 l3] 78)) B l1 l2 l3 none 0 0 []) := ⟨At.new' _ _ _ hBe.symm, Own3D.nil _ _, rfl, (Below.refl _ _).alloc (Nat.le_refl _) _, by omega⟩
  have s2 := s1.below ((Below.refl w.heap.size w).alloc (Nat.le_refl _) (.cells #[.int .u64 l1, .int .i64 l2, .int .i64 l3] 78))
  have f2 := s2.two
  go_wp2
  generalize w.alloc (.cells #[.int .u64 l1, .int .i64 l2, .int .i64 l3] 78) = W1 at HD s2 f2 ⊢
  have hmB : m < B := by omega
  have HBE := Lib.hid hBe
  clear s1 hm hBe
  go_loopw [4, 6, 14] (fun o _ i wr => ∃ k n : Nat, ∃ A' cap', k ≤ len ∧ n ≤ k ∧ i = .int .i64 k ∧ o = .slice A' n cap' ∧ Hid (DLay w wr B (l1 + sumI (fun x => decide (lsame x (l1, l2, l3))) (ls.take k)) l2 l3 A' cap' n ((ls.take k).filter (fun x => decide (lless x (l1, l2, l3)))))) (fun _ _ i _ => len - (intOf i).toNat)
  case atStart => exact ⟨0, 0, none, 0, by omega, by omega, rfl, rfl, by rw [List.take_zero, sumI_nil, Int.add_zero]; exact HD.out⟩
  case round =>
    clear HD f2 s2
    obtain ⟨k, n, A', cap', hk, hn, rfl, rfl, H⟩ := hrel
    by_cases hlt : k < len
    · obtain ⟨g, o, rfl, hg, c1, c2, c3⟩ := (HR.out.below H.out.below).at k (by have := HLN.out; omega)
      have HKL : Hid (k < ls.length) := by have := HLN.out; show _ < _; omega
      have HI := Lib.hid (sumI_take (fun x => decide (lsame x (l1, l2, l3))) ls k HKL.out)
      have HN0 := Lib.hid (HG.out.pos _ (List.getElem_mem HKL.out))
      have HBD := Lib.hid (Int.le_trans (sumI_le (p := fun x => decide (lsame x (l1, l2, l3))) (ls := ls.take (k + 1)) fun x hx => HG.out.pos x (List.mem_of_mem_take hx)).2 (sumN_take_le HG.out (k + 1)))
      have HBD0 := Lib.hid (sumI_le (p := fun x => decide (lsame x (l1, l2, l3))) (ls := ls.take k) fun x hx => HG.out.pos x (List.mem_of_mem_take hx)).1
      obtain ⟨⟨x, y, z⟩, hx⟩ : ∃ x, ls[k]'HKL.out = x := ⟨_, rfl⟩
      have HX := Lib.hid hx
      rw [hx] at c1 c2 c3 HI HN0
      obtain ⟨t, ht⟩ : ∃ t, l1 + sumI (fun x => decide (lsame x (l1, l2, l3))) (ls.take k) = t := ⟨_, rfl⟩
      have HT := Lib.hid ht
      rw [ht] at H
      dsimp only at c1 c2 c3 HN0
      clear hx ht
      have hba : Below wr.heap.size wr (wr.alloc (.cells #[.int .u64 x, .int .i64 y, .int .i64 z] 78)) := (Below.refl _ _).alloc (Nat.le_refl _) _
      have H2 := Lib.hid (H.out.belowW hba)
      have aX := At.new wr #[.int .u64 x, .int .i64 y, .int .i64 z] 78
      have b0 := H2.out.box.three
      have HNE : Hid (some wr.heap.size ≠ (Value.slice A' n cap').ownBlock) := own3D_ne2 H.out.own (Nat.le_refl _)
      have z0 := H.out.base
      go_wp2_with fail
      obtain ⟨xB, hxB⟩ : ∃ e, wr.heap.size = e := ⟨_, rfl⟩
      generalize wr.alloc (.cells #[.int .u64 x, .int .i64 y, .int .i64 z] 78) = W2 at H2 aX b0 ⊢
      try simp only [hxB] at aX z0 HNE ⊢
      clear hxB hba c1 c2 c3 H b0
      refine (dless_any x y z t l2 l3 W2).mono ?_
      rintro e w3 ⟨rfl, hb⟩
      have H3 := Lib.hid (H2.out.belowW hb)
      replace aX := aX.below hb
      clear hb H2
      have e1 : decide (lless (x, y, z) (t, l2, l3)) = decide (lless (x, y, z) (l1, l2, l3)) := rfl
      rw [e1]
      clear e1
      rcases Int.lt_or_le y l2 with hy | hy
      · have hle : lless (x, y, z) (l1, l2, l3) := .inl hy
        have he : (y == l2) = false := beq_eq_false_iff_ne.2 (by omega)
        rw [decide_eq_true hle]
        have HF := Lib.hid (lfilter_take_yes (p := fun x => decide (lless x (l1, l2, l3))) HKL.out HX.out (decide_eq_true hle))
        have HI2 : Hid (sumI (fun x => decide (lsame x (l1, l2, l3))) (ls.take (k + 1)) = sumI (fun x => decide (lsame x (l1, l2, l3))) (ls.take k)) := by
          show _ = _
          rw [HI.out, if_neg (by simpa using lless_not_same hle), Int.add_zero]
        clear hle HI
        have fX := aX.three
        have fB := H3.out.box.three
        have z3 := H3.out.base
        go_wp2_with (at_builtin; refine wpList_append_lumpD2 rfl _ _ rfl (B + 1) A' cap' n _ rfl H3.out.len (H3.out.own.below (by repeat (first | with_reducible assumption | with_reducible exact Below.refl _ _ | with_reducible refine Below.drew ?_ | with_reducible refine Below.drewN ?_ _ | with_reducible refine Below.setCell ?_ (by first | omega | (simp; done) | (simp; omega)) _ | with_reducible refine Below.alloc ?_ (by first | omega | (simp; done) | (simp; omega) | (simp [World.setCell]; omega)) _))) _ _ (x, y, z) rfl (new_three0 (by simp)) (new_three1 (by simp)) (new_three2 (by simp)) (by omega) (Nat.le_trans H3.out.base (by simp)) ?_; intro A2 cap2 w4 HW2 HGB; have fX4 := ((aX.alloc _).appD HGB.out HNE.out).three; have fB4 := ((H3.out.box.alloc _).appD HGB.out (H3.out.own_ne B (by omega))).three; have fB5 := ((H3.out.box.alloc _).appD HGB.out (H3.out.own_ne B (by omega))).lt; clear fX fB)
        have H4 : Hid (DLay w w4 B t l2 l3 A2 cap2 (n + 1) ((ls.take (k + 1)).filter (fun x => decide (lless x (l1, l2, l3))))) := by
          rw [HF.out]
          exact (H3.out.belowW ((Below.refl _ _).alloc (Nat.le_refl _) _)).appG HW2.out (by rw [List.length_append, H3.out.len]; rfl) HGB.out
        go_roundw
        case rel => exact ⟨k + 1, n + 1, A2, cap2, by omega, by omega, by simp, rfl, by rw [HI2.out, HT.out]; exact H4.out⟩
        case measure => simp [intOf]; omega
      · rcases Int.lt_or_le l2 y with hy2 | hy2
        · have hle : ¬ lless (x, y, z) (l1, l2, l3) := by rintro (h | h); exact absurd h (by show ¬ y < l2; omega); exact absurd h.1 (by show ¬ y = l2; omega)
          have hsa : ¬ lsame (x, y, z) (l1, l2, l3) := fun h => by have : y = l2 := h.1; omega
          have he : (y == l2) = false := beq_eq_false_iff_ne.2 (by omega)
          rw [decide_eq_false hle]
          have HF := Lib.hid (lfilter_take_no (p := fun x => decide (lless x (l1, l2, l3))) HKL.out HX.out (decide_eq_false hle))
          have HI2 : Hid (sumI (fun x => decide (lsame x (l1, l2, l3))) (ls.take (k + 1)) = sumI (fun x => decide (lsame x (l1, l2, l3))) (ls.take k)) := by
            show _ = _
            rw [HI.out, if_neg (by simpa using hsa), Int.add_zero]
          clear hle hsa HI
          have fX := aX.three
          have fB := H3.out.box.three
          go_wp2
          have H4 : Hid (DLay w w3 B t l2 l3 A' cap' n ((ls.take (k + 1)).filter (fun x => decide (lless x (l1, l2, l3))))) := by
            rw [HF.out]
            exact H3.out
          go_roundw
          case rel => exact ⟨k + 1, n, A', cap', by omega, by omega, by simp, rfl, by rw [HI2.out, HT.out]; exact H4.out⟩
          case measure => simp [intOf]; omega
        · obtain rfl : y = l2 := by omega
          clear hy hy2
          rcases Int.lt_or_le z l3 with hz | hz
          · have hle : lless (x, y, z) (l1, y, l3) := .inr ⟨rfl, hz⟩
            have he : (z == l3) = false := beq_eq_false_iff_ne.2 (by omega)
            rw [decide_eq_true hle]
            have HF := Lib.hid (lfilter_take_yes (p := fun x => decide (lless x (l1, y, l3))) HKL.out HX.out (decide_eq_true hle))
            have HI2 : Hid (sumI (fun x => decide (lsame x (l1, y, l3))) (ls.take (k + 1)) = sumI (fun x => decide (lsame x (l1, y, l3))) (ls.take k)) := by
              show _ = _
              rw [HI.out, if_neg (by simpa using lless_not_same hle), Int.add_zero]
            clear hle HI
            have fX := aX.three
            have fB := H3.out.box.three
            have z3 := H3.out.base
            go_wp2_with (at_builtin; refine wpList_append_lumpD2 rfl _ _ rfl (B + 1) A' cap' n _ rfl H3.out.len (H3.out.own.below (by repeat (first | with_reducible assumption | with_reducible exact Below.refl _ _ | with_reducible refine Below.drew ?_ | with_reducible refine Below.drewN ?_ _ | with_reducible refine Below.setCell ?_ (by first | omega | (simp; done) | (simp; omega)) _ | with_reducible refine Below.alloc ?_ (by first | omega | (simp; done) | (simp; omega) | (simp [World.setCell]; omega)) _))) _ _ (x, y, z) rfl (new_three0 (by simp)) (new_three1 (by simp)) (new_three2 (by simp)) (by omega) (Nat.le_trans H3.out.base (by simp)) ?_; intro A2 cap2 w4 HW2 HGB; have fX4 := ((aX.alloc _).appD HGB.out HNE.out).three; have fB4 := ((H3.out.box.alloc _).appD HGB.out (H3.out.own_ne B (by omega))).three; have fB5 := ((H3.out.box.alloc _).appD HGB.out (H3.out.own_ne B (by omega))).lt; clear fX fB)
            have H4 : Hid (DLay w w4 B t y l3 A2 cap2 (n + 1) ((ls.take (k + 1)).filter (fun x => decide (lless x (l1, y, l3))))) := by
              rw [HF.out]
              exact (H3.out.belowW ((Below.refl _ _).alloc (Nat.le_refl _) _)).appG HW2.out (by rw [List.length_append, H3.out.len]; rfl) HGB.out
            go_roundw
            case rel => exact ⟨k + 1, n + 1, A2, cap2, by omega, by omega, by simp, rfl, by rw [HI2.out, HT.out]; exact H4.out⟩
            case measure => simp [intOf]; omega
          · rcases Int.lt_or_le l3 z with hz2 | hz2
            · have hle : ¬ lless (x, y, z) (l1, y, l3) := by rintro (h | h); exact absurd h (by show ¬ y < y; omega); exact absurd h.2 (by show ¬ z < l3; omega)
              have hsa : ¬ lsame (x, y, z) (l1, y, l3) := fun h => by have : z = l3 := h.2; omega
              have he : (z == l3) = false := beq_eq_false_iff_ne.2 (by omega)
              rw [decide_eq_false hle]
              have HF := Lib.hid (lfilter_take_no (p := fun x => decide (lless x (l1, y, l3))) HKL.out HX.out (decide_eq_false hle))
              have HI2 : Hid (sumI (fun x => decide (lsame x (l1, y, l3))) (ls.take (k + 1)) = sumI (fun x => decide (lsame x (l1, y, l3))) (ls.take k)) := by
                show _ = _
                rw [HI.out, if_neg (by simpa using hsa), Int.add_zero]
              clear hle hsa HI
              have fX := aX.three
              have fB := H3.out.box.three
              go_wp2
              have H4 : Hid (DLay w w3 B t y l3 A' cap' n ((ls.take (k + 1)).filter (fun x => decide (lless x (l1, y, l3))))) := by
                rw [HF.out]
                exact H3.out
              go_roundw
              case rel => exact ⟨k + 1, n, A', cap', by omega, by omega, by simp, rfl, by rw [HI2.out, HT.out]; exact H4.out⟩
              case measure => simp [intOf]; omega
            · obtain rfl : z = l3 := by omega
              clear hz hz2
              have hle : ¬ lless (x, y, z) (l1, y, z) := by rintro (h | h); exact absurd h (by show ¬ y < y; omega); exact absurd h.2 (by show ¬ z < z; omega)
              rw [decide_eq_false hle]
              have HF := Lib.hid (lfilter_take_no (p := fun x => decide (lless x (l1, y, z))) HKL.out HX.out (decide_eq_false hle))
              have HI2 : Hid (sumI (fun x => decide (lsame x (l1, y, z))) (ls.take (k + 1)) = sumI (fun x => decide (lsame x (l1, y, z))) (ls.take k) + x) := by
                show _ = _
                rw [HI.out, if_pos (decide_eq_true (show lsame (x, y, z) (l1, y, z) from ⟨rfl, rfl⟩))]
              have hw : IntKind.u64.wrap (t + x) = t + x := by have h1 := HI2.out; have h2 := HBD.out; have h3 := HT.out; have h4 := HS.out; have h5 := HBD0.out; have h6 := HN0.out; simp only [IntKind.wrap_u64]; omega
              have HTX : Hid (l1 + sumI (fun x => decide (lsame x (l1, y, z))) (ls.take (k + 1)) = t + x) := by show _ = _; rw [HI2.out, ← HT.out]; omega
              clear hle HI
              have fX := aX.three
              have fB := H3.out.box.three
              have lB := H3.out.box.lt
              go_wp2
              have H4 : Hid (DLay w (w3.setCell ⟨B, 0, none⟩ (.int .u64 (t + x))) B (t + x) y z A' cap' n ((ls.take (k + 1)).filter (fun x => decide (lless x (l1, y, z))))) := by
                rw [HF.out]
                exact H3.out.set (t + x)
              go_roundw
              case rel => exact ⟨k + 1, n, A', cap', by omega, by omega, by simp, rfl, by rw [HTX.out]; exact H4.out⟩
              case measure => simp [intOf]; omega
    · obtain rfl : k = len := by omega
      rw [List.take_of_length_le (by have := HLN.out; omega)] at H
      obtain ⟨T, hT⟩ : ∃ T, l1 + sumI (fun x => decide (lsame x (l1, l2, l3))) ls = T := ⟨_, rfl⟩
      obtain ⟨F1, hF1⟩ : ∃ F, ls.filter (fun x => decide (lless x (l1, l2, l3))) = F := ⟨_, rfl⟩
      rw [hT, hF1] at H
      have HLAID : Hid (laid ls (l1, l2, l3) = F1 ++ [(T, l2, l3)] ++ ls.filter (fun x => decide (lless (l1, l2, l3) x))) := by
        show _ = _
        unfold laid
        rw [← hT, ← hF1]
      have sW := HS1.out.below H.out.below
      have fW := sW.two
      have fB := H.out.box.three
      have lW := sW.lt
      have zW := H.out.base
      clear hT hF1
      go_wp2_with (at_builtin; refine wpList_append_lumpD2 rfl _ _ rfl (B + 1) A' cap' n _ rfl H.out.len (H.out.own.below (by repeat (first | with_reducible assumption | with_reducible exact Below.refl _ _ | with_reducible refine Below.drew ?_ | with_reducible refine Below.drewN ?_ _ | with_reducible refine Below.setCell ?_ (by first | omega | (simp; done) | (simp; omega)) _ | with_reducible refine Below.alloc ?_ (by first | omega | (simp; done) | (simp; omega) | (simp [World.setCell]; omega)) _))) _ _ (T, l2, l3) rfl (new_three0 (by simp)) (new_three1 (by simp)) (new_three2 (by simp)) (by omega) (Nat.le_trans H.out.base (by simp)) ?_; intro A2 cap2 w4 HW2 HGB; have H4 := Lib.hid ((H.out.belowW ((Below.refl _ _).alloc (Nat.le_refl _) _)).appG HW2.out (n' := n + 1) (by rw [List.length_append, H.out.len]; rfl) HGB.out); have sW4 := HS1.out.below H4.out.below; have fW4 := sW4.two; have fB4 := H4.out.box.three; have lW4 := sW4.lt; clear fW fB lW sW HGB HW2 H)
      clear fB4
      go_loopw [4, 8, 53] (fun o _ i wr => ∃ k2 n2 : Nat, ∃ A3 cap3, k2 ≤ k ∧ n2 ≤ 2000000 + k2 ∧ i = .int .i64 k2 ∧ o = .slice A3 n2 cap3 ∧ Hid (DLay w wr B T l2 l3 A3 cap3 n2 (F1 ++ [(T, l2, l3)] ++ (ls.take k2).filter (fun x => decide (lless (l1, l2, l3) x))))) (fun _ _ i _ => k - (intOf i).toNat)
      case atStart => exact ⟨0, n + 1, A2, cap2, by omega, by omega, rfl, rfl, by rw [List.take_zero, List.filter_nil, List.append_nil]; exact H4.out⟩
      case round =>
        clear H4 fW4 sW4 lW4 zW
        obtain ⟨k2, n2, A3, cap3, hk2, hn2, rfl, rfl, H⟩ := hrel
        by_cases hlt2 : k2 < k
        · obtain ⟨g, o, rfl, hg, c1, c2, c3⟩ := (HR.out.below H.out.below).at k2 (by have := HLN.out; omega)
          have HKL : Hid (k2 < ls.length) := by have := HLN.out; show _ < _; omega
          obtain ⟨⟨x, y, z⟩, hx⟩ : ∃ x, ls[k2]'HKL.out = x := ⟨_, rfl⟩
          have HX := Lib.hid hx
          rw [hx] at c1 c2 c3
          dsimp only at c1 c2 c3
          clear hx
          have hba : Below wr.heap.size wr (wr.alloc (.cells #[.int .u64 x, .int .i64 y, .int .i64 z] 78)) := (Below.refl _ _).alloc (Nat.le_refl _) _
          have H2 := Lib.hid (H.out.belowW hba)
          have aX := At.new wr #[.int .u64 x, .int .i64 y, .int .i64 z] 78
          have b0 := H2.out.box.three
          have z0 := H.out.base
          go_wp2_with fail
          obtain ⟨xB, hxB⟩ : ∃ e, wr.heap.size = e := ⟨_, rfl⟩
          generalize wr.alloc (.cells #[.int .u64 x, .int .i64 y, .int .i64 z] 78) = W2 at H2 aX b0 ⊢
          try simp only [hxB] at aX z0 ⊢
          clear hxB hba c1 c2 c3 H b0
          refine (dless_any T l2 l3 x y z W2).mono ?_
          rintro e w3 ⟨rfl, hb⟩
          have H3 := Lib.hid (H2.out.belowW hb)
          replace aX := aX.below hb
          clear hb H2
          have e1 : decide (lless (T, l2, l3) (x, y, z)) = decide (lless (l1, l2, l3) (x, y, z)) := rfl
          rw [e1]
          clear e1
          have fX := aX.three
          have fB := H3.out.box.three
          have z3 := H3.out.base
          by_cases hle : lless (l1, l2, l3) (x, y, z)
          · rw [decide_eq_true hle]
            have HF := Lib.hid (lfilter_take_yes (p := fun x => decide (lless (l1, l2, l3) x)) HKL.out HX.out (decide_eq_true hle))
            clear hle
            go_wp2_with (at_builtin; refine wpList_append_lumpD2 rfl _ _ rfl (B + 1) A3 cap3 n2 _ rfl H3.out.len (H3.out.own.below (by repeat (first | with_reducible assumption | with_reducible exact Below.refl _ _ | with_reducible refine Below.drew ?_ | with_reducible refine Below.drewN ?_ _ | with_reducible refine Below.setCell ?_ (by first | omega | (simp; done) | (simp; omega)) _ | with_reducible refine Below.alloc ?_ (by first | omega | (simp; done) | (simp; omega) | (simp [World.setCell]; omega)) _))) _ _ (x, y, z) rfl (new_three0 (by simp)) (new_three1 (by simp)) (new_three2 (by simp)) (by omega) (Nat.le_trans H3.out.base (by simp)) ?_; intro A4 cap4 w5 HW5 HGB)
            have H5 : Hid (DLay w w5 B T l2 l3 A4 cap4 (n2 + 1) (F1 ++ [(T, l2, l3)] ++ (ls.take (k2 + 1)).filter (fun x => decide (lless (l1, l2, l3) x)))) := by
              rw [HF.out, ← List.append_assoc]
              exact (H3.out.belowW ((Below.refl _ _).alloc (Nat.le_refl _) _)).appG HW5.out (by rw [List.length_append, H3.out.len]; rfl) HGB.out
            go_roundw
            case rel => exact ⟨k2 + 1, n2 + 1, A4, cap4, by omega, by omega, by simp, rfl, H5⟩
            case measure => simp [intOf]; omega
          · rw [decide_eq_false hle]
            have HF := Lib.hid (lfilter_take_no (p := fun x => decide (lless (l1, l2, l3) x)) HKL.out HX.out (decide_eq_false hle))
            clear hle
            go_wp2
            have H5 : Hid (DLay w w3 B T l2 l3 A3 cap3 n2 (F1 ++ [(T, l2, l3)] ++ (ls.take (k2 + 1)).filter (fun x => decide (lless (l1, l2, l3) x)))) := by
              rw [HF.out]
              exact H3.out
            go_roundw
            case rel => exact ⟨k2 + 1, n2, A3, cap3, by omega, by omega, by simp, rfl, H5⟩
            case measure => simp [intOf]; omega
        · obtain rfl : k2 = k := by omega
          rw [List.take_of_length_le (by have := HLN.out; omega), ← HLAID.out] at H
          have sW := HS1.out.below H.out.below
          have fW := sW.two
          have lW := sW.lt
          have HRES : Hid (DocKR m S most (laid ls (l1, l2, l3)) w (wr.setCell ⟨m, 1, none⟩ (.slice A3 n2 cap3))) := by
            have hmS : m ∈ S := by rw [HSM.out]; simp
            refine ⟨m :: blk A3, fun k hk => ?_, ⟨A3, cap3, rfl, ⟨?_, ?_, fun hk => ?_⟩⟩, (Frame.of_below H.out.below).setc (.inl hmS) 1 _⟩
            · rcases List.mem_cons.1 hk with rfl | hk
              · exact .inl hmS
              · have := (H.out.own.mem k hk).1; have := H.out.le; exact .inr (by omega)
            · rw [H.out.len]; exact sW.set_any 1 _ rfl
            · exact (H.out.own.setlow (k := m) (by omega) _).mono (Nat.zero_le _)
            · have := (H.out.own.mem m hk).1; omega
          clear sW H
          go_wp2
          exact bodyPost_end (results_none rfl _ _ _) rfl ⟨rfl, HRES.out⟩
end Go.Proofs.Ytbmnebpjjghkpaa

