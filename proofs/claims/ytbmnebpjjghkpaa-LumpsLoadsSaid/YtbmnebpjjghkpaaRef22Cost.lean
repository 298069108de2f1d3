/- Contract of the document's lumps: cost. -/
import Derived.Test.YtbmnebpjjghkpaaProg
import Derived.Test.YtbmnebpjjghkpaaRef22Lay
import Derived.Test.YtbmnebpjjghkpaaLumpCost
import Derived.BigQuiet
import Derived.Deep.QuietTactic
namespace Go.Proofs.Ytbmnebpjjghkpaa
open Go.RowKit

theorem sumN_ahead {ls : List Lu} {k i : Nat} (hk : k < ls.length) (hi : k < i) : sumN (ls.take (min (k + 1) i)) = sumN (ls.take (min k i)) + (ls[k]'hk).1 := by
  rw [show min (k + 1) i = k + 1 by omega, show min k i = k by omega, sumN_take ls k hk]
theorem sumN_ahead_no {ls : List Lu} {k i : Nat} (hi : ¬ k < i) : sumN (ls.take (min (k + 1) i)) = sumN (ls.take (min k i)) := by
  rw [show min (k + 1) i = i by omega, show min k i = i by omega]
theorem sumN_behind {ls : List Lu} {k i : Nat} (hk : k < ls.length) (hi : i + 1 < k) : sumN ((ls.take (k + 1)).drop (i + 2)) = sumN ((ls.take k).drop (i + 2)) + (ls[k]'hk).1 := by
  rw [List.take_succ_eq_append_getElem hk, List.drop_append_of_le_length (by rw [List.length_take]; omega), sumN_append, sumN_cons, sumN_nil, Int.add_zero]
theorem sumN_behind_no {ls : List Lu} {k i : Nat} (hi : ¬ i + 1 < k) : sumN ((ls.take (k + 1)).drop (i + 2)) = sumN ((ls.take k).drop (i + 2)) := by
  rw [List.drop_eq_nil_of_le (by rw [List.length_take]; omega), List.drop_eq_nil_of_le (by rw [List.length_take]; omega)]
theorem sumN_some_le {ls ks : List Lu} (h : GdL ls) (hs : ks.Sublist ls) : 0 ≤ sumN ks ∧ sumN ks ≤ sumN ls := by
  have h1 := sumN_nonneg (ls := ks) fun x hx => h.pos x (hs.subset hx)
  refine ⟨h1, ?_⟩
  clear h1
  induction hs with
  | slnil => exact Int.le_refl _
  | cons a hs ih =>
    have := h.pos a (by simp)
    have := ih h.tail
    rw [sumN_cons]; omega
  | cons_cons a hs ih =>
    have := ih h.tail
    rw [sumN_cons, sumN_cons]; omega

set_option maxRecDepth 100000 in
set_option maxHeartbeats 2000000 in
theorem dkcost_any (m : Nat) (S : List Nat) (most : Int) (ls : List Lu) (i : Nat) (w : World) (h : DocK w m S most ls) (hg : GdL ls) (hs : sumN ls ≤ 9223372036854775807) (hi : i + 1 < ls.length) (hl : ls.length ≤ 1048576) :
    Calls Try.prog 49 #[.pointer (some ⟨m, 0, none⟩), .int .i64 i] w fun e w' => e = .returned (.agg #[.int .u64 (costL ls i).1, .int .u64 (costL ls i).2]) ∧ Below w.heap.size w w' := by
  obtain ⟨A, c, _, hB⟩ := h
  have s1 := hB.at'
  have HR := Lib.hid hB.own.rd
  have hsp := sumN_split2 hi
  have p1 := hg.pos _ (mem_lget (by omega : i < ls.length))
  have p2 := hg.pos _ (mem_lget hi)
  have HG := Lib.hid hg
  have HS := Lib.hid hs
  have HV : Hid (costL ls i = ((lget ls i).1 + (lget ls (i + 1)).1, min (sumN (ls.take i)) (sumN (ls.drop (i + 2))) + 1)) := rfl
  have hi0 := hi
  obtain ⟨n, hn⟩ : ∃ n, ls.length = n := ⟨_, rfl⟩
  have HLN := Lib.hid hn
  rw [hn] at s1 hi hl
  have v1 : IntKind.i64.wrap ((i : Int) + 1) = ((i + 1 : Nat) : Int) := by simp only [IntKind.wrap_i64]; omega
  have HS1 := Lib.hid s1
  have f1 := s1.two
  have l1 := s1.lt
  have HSP := Lib.hid (And.intro hsp (And.intro p1 p2))
  clear hB hsp p1 p2 hs hg hn hi0 s1
  go_enter Try.func49, Try.ntmps49
  go_wp2
  have hb0 : Below w.heap.size w (w.alloc (.cells #[.int .u64 0, .int .u64 0] 58)) := (Below.refl _ _).alloc (Nat.le_refl _) _
  have HC := Lib.hid (At.new' w #[.int .u64 0, .int .u64 0] 58 rfl)
  have HB0 := Lib.hid hb0
  generalize w.alloc (.cells #[.int .u64 0, .int .u64 0] 58) = W1 at hb0 HC HB0 ⊢
  clear hb0 f1
  go_loopw [5, 6, 7, 8, 14] (fun a b _ _ j wr => ∃ k : Nat, ∃ p q : Int, k ≤ n ∧ j = .int .i64 k ∧ a = .int .u64 p ∧ b = .int .u64 q ∧ 0 ≤ p ∧ 0 ≤ q ∧ Hid (p = sumN (ls.take (min k i)) ∧ q = sumN ((ls.take k).drop (i + 2))) ∧ Below W1.heap.size W1 wr) (fun _ _ _ _ j _ => n - (intOf j).toNat)
  case atStart => exact ⟨0, 0, 0, by omega, rfl, rfl, rfl, by omega, by omega, ⟨by simp [sumN], by simp [sumN]⟩, Below.refl _ _⟩
  case round =>
    obtain ⟨k, p, q, hk, rfl, rfl, rfl, hp0, hq0, HPQ, hB⟩ := hrel
    have zB := hB.size
    have HRW := Lib.hid ((HR.out.below HB0.out).below hB)
    by_cases hlt : k < n
    · obtain ⟨g, o, rfl, hg, c1, c2, c3⟩ := HRW.out.at k (by have := HLN.out; omega)
      have HKL : Hid (k < ls.length) := by have := HLN.out; show _ < _; omega
      have HP := Lib.hid (HG.out.pos _ (List.getElem_mem HKL.out))
      have HA := Lib.hid (fun h => sumN_ahead (i := i) HKL.out h)
      have HD := Lib.hid (fun h => sumN_behind (i := i) HKL.out h)
      have HA2 := Lib.hid (sumN_some_le HG.out (List.take_sublist (min (k + 1) i) ls)).2
      have HD2 := Lib.hid (sumN_some_le HG.out ((List.drop_sublist (i + 2) (ls.take (k + 1))).trans (List.take_sublist (k + 1) ls))).2
      obtain ⟨⟨y1, y2, y3⟩, hy⟩ : ∃ y, ls[k]'HKL.out = y := ⟨_, rfl⟩
      rw [hy] at c1 c2 c3 HP HA HD
      dsimp only at c1 c2 c3 HP HA HD
      clear hy HR HRW
      by_cases ha : k < i
      · have ha' : (k : Int) < i := by omega
        have hb' : ¬ ((i + 1 : Nat) : Int) < (k : Int) := by omega
        have hw : IntKind.u64.wrap (p + y1) = p + y1 := by have h1 := HA.out ha; have h2 := HA2.out; have h3 := HPQ.out.1; have h4 := HP.out; have h5 := HS.out; simp only [IntKind.wrap_u64]; omega
        have HN : Hid (p + y1 = sumN (ls.take (min (k + 1) i)) ∧ q = sumN ((ls.take (k + 1)).drop (i + 2))) := ⟨by rw [HA.out ha, HPQ.out.1], by rw [sumN_behind_no (by omega), HPQ.out.2]⟩
        have hpp : 0 ≤ p + y1 := by have := HP.out; omega
        clear HA HD HA2 HD2
        go_wp2
        go_roundw
        case rel => exact ⟨k + 1, p + y1, q, by omega, by simp, rfl, rfl, hpp, hq0, HN, (by repeat (first | with_reducible assumption | with_reducible exact Below.refl _ _ | with_reducible refine Below.drew ?_ | with_reducible refine Below.drewN ?_ _ | with_reducible refine Below.setCell ?_ (by first | omega | (simp; done) | (simp; omega)) _ | with_reducible refine Below.alloc ?_ (by first | omega | (simp; done) | (simp; omega) | (simp [World.setCell]; omega)) _))⟩
        case measure => simp [intOf]; omega
      · have ha' : ¬ (k : Int) < i := by omega
        by_cases hb : i + 1 < k
        · have hb' : ((i + 1 : Nat) : Int) < (k : Int) := by omega
          have hw : IntKind.u64.wrap (q + y1) = q + y1 := by have h1 := HD.out hb; have h2 := HD2.out; have h3 := HPQ.out.2; have h4 := HP.out; have h5 := HS.out; simp only [IntKind.wrap_u64]; omega
          have HN : Hid (p = sumN (ls.take (min (k + 1) i)) ∧ q + y1 = sumN ((ls.take (k + 1)).drop (i + 2))) := ⟨by rw [sumN_ahead_no ha, HPQ.out.1], by rw [HD.out hb, HPQ.out.2]⟩
          have hpp : 0 ≤ q + y1 := by have := HP.out; omega
          clear HA HD HA2 HD2
          go_wp2
          go_roundw
          case rel => exact ⟨k + 1, p, q + y1, by omega, by simp, rfl, rfl, hp0, hpp, HN, (by repeat (first | with_reducible assumption | with_reducible exact Below.refl _ _ | with_reducible refine Below.drew ?_ | with_reducible refine Below.drewN ?_ _ | with_reducible refine Below.setCell ?_ (by first | omega | (simp; done) | (simp; omega)) _ | with_reducible refine Below.alloc ?_ (by first | omega | (simp; done) | (simp; omega) | (simp [World.setCell]; omega)) _))⟩
          case measure => simp [intOf]; omega
        · have hb' : ¬ ((i + 1 : Nat) : Int) < (k : Int) := by omega
          have HN : Hid (p = sumN (ls.take (min (k + 1) i)) ∧ q = sumN ((ls.take (k + 1)).drop (i + 2))) := ⟨by rw [sumN_ahead_no ha, HPQ.out.1], by rw [sumN_behind_no hb, HPQ.out.2]⟩
          clear HA HD HA2 HD2
          go_wp2
          go_roundw
          case rel => exact ⟨k + 1, p, q, by omega, by simp, rfl, rfl, hp0, hq0, HN, (by repeat (first | with_reducible assumption | with_reducible exact Below.refl _ _ | with_reducible refine Below.drew ?_ | with_reducible refine Below.drewN ?_ _ | with_reducible refine Below.setCell ?_ (by first | omega | (simp; done) | (simp; omega)) _ | with_reducible refine Below.alloc ?_ (by first | omega | (simp; done) | (simp; omega) | (simp [World.setCell]; omega)) _))⟩
          case measure => simp [intOf]; omega
    · obtain rfl : k = n := by omega
      have hq := HPQ.out
      rw [show min k i = i by omega, List.take_of_length_le (by have := HLN.out; omega : ls.length ≤ k)] at hq
      have HBW : Hid (Below w.heap.size w wr) := keep1 HB0.out hB
      have sW := HS1.out.below HBW.out
      have cW := HC.out.below hB
      obtain ⟨g, o, rfl, hg1, c1, _, _⟩ := HRW.out.at' i (by have := HLN.out; omega)
      obtain ⟨g', o', e, hg2, e1, _, _⟩ := HRW.out.at' (i + 1) (by have := HLN.out; omega)
      cases e
      obtain ⟨x, hx⟩ : ∃ x, (lget ls i).1 = x := ⟨_, rfl⟩
      obtain ⟨y, hy⟩ : ∃ y, (lget ls (i + 1)).1 = y := ⟨_, rfl⟩
      have hsp := HSP.out
      rw [hx] at c1 HV hsp
      rw [hy] at e1 HV hsp
      rw [← hq.1, ← hq.2] at HV hsp
      have hS := HS.out
      have v2 : IntKind.u64.wrap (x + y) = x + y := by simp only [IntKind.wrap_u64]; omega
      have v5 : IntKind.u64.wrap (min p q + 1) = min p q + 1 := by simp only [IntKind.wrap_u64]; omega
      have k0 : (0 : Int) ≤ i := by omega
      have k1 : (i : Int) < k := by omega
      have k2 : (0 : Int) ≤ ((i + 1 : Nat) : Int) := by omega
      have k3 : ((i + 1 : Nat) : Int) < k := by omega
      have k4 : (0 : Int) ≤ (i : Int) + 1 := by omega
      have k5 : (i : Int) + 1 < k := by omega
      have k6 : ((i : Int) + 1).toNat = i + 1 := by omega
      have fW := sW.two
      have lW := sW.lt
      have fC := cW.two
      have lC := cW.lt
      clear hsp hq hx hy hS hp0 hq0 HRW HPQ HR HSP sW hi hl hk hlt
      go_wp2
      go_region
      go_wp2
      have a4 := (((cW.set_any 0 (.int .u64 (x + y)) rfl).set_any 1 (.int .u64 (min p q + 1)) rfl).drew).two
      exact bodyPost_ret (v := .agg #[.int .u64 (x + y), .int .u64 (min p q + 1)]) (by simp only [results, Try.f49]; simp [go_sem, a4, v5]) rfl ⟨by rw [HV.out], (((HBW.out.setCell (Nat.le_refl _) _).setCell (Nat.le_refl _) _).drew)⟩
end Go.Proofs.Ytbmnebpjjghkpaa

