/- Contracts of the document's lumps: Good. -/
import Derived.Test.YtbmnebpjjghkpaaProg
import Derived.Test.YtbmnebpjjghkpaaRef22Same
namespace Go.Proofs.Ytbmnebpjjghkpaa
open Go.RowKit

theorem okK_no {most : Int} {ls : List Lu} {k : Nat} (hk : k < ls.length) (h : OkK most ls → False) : ¬ OkK most ls := h
set_option maxRecDepth 100000 in
set_option maxHeartbeats 2000000 in
theorem kgood_any (A : Option Addr) (len cap : Nat) (ls : List Lu) (most : Int) (w : World) (hl : ls.length = len) (hm : len ≤ 9223372036854775807) (hR : RdL w A ls) (hok : okL ls) :
    Calls Try.prog 17 #[.slice A len cap, .int .i64 most] w fun e w' => SaysL (OkK most ls) e ∧ Below w.heap.size w w' := by
  have HR := Lib.hid hR
  have HO := Lib.hid hok
  have HLN := Lib.hid hl
  clear hR hok hl
  go_enter Try.func17, Try.ntmps17
  go_wp2
  go_loopw [5, 6, 7, 10] (fun s _ _ i wr => ∃ k : Nat, ∃ n : Int, k ≤ len ∧ i = .int .i64 k ∧ s = .int .u64 n ∧ 0 ≤ n ∧ n ≤ 9223372036854775807 ∧ Hid (n = sumN (ls.take k) ∧ GdL (ls.take k)) ∧ Below w.heap.size w wr) (fun _ _ _ i _ => len - (intOf i).toNat)
  case atStart => exact ⟨0, 0, by omega, rfl, rfl, by omega, by omega, ⟨rfl, GdL.nil⟩, Below.refl _ _⟩
  case round =>
    obtain ⟨k, n, hk, rfl, rfl, hn0, hn, HG, hB⟩ := hrel
    have zB := hB.size
    by_cases hlt : k < len
    · obtain ⟨g, o, rfl, hg, c1, c2, c3⟩ := (HR.out.below hB).at k (by have := HLN.out; omega)
      have hkl : k < ls.length := by have := HLN.out; omega
      have HB := Lib.hid (HO.out _ (List.getElem_mem hkl))
      have HS := Lib.hid (gdL_snoc k hkl HG.out.2)
      have HSN := Lib.hid (sumN_take ls k hkl)
      have HX := Lib.hid (fun h : OkK most ls => (And.intro (h.gd.pos _ (List.getElem_mem hkl)) (And.intro (h.gd.rng _ (List.getElem_mem hkl)) (And.intro (lmem_le_sum h.gd (List.getElem_mem hkl)) (And.intro h.sm (And.intro (sumN_take_le h.gd (k + 1)) (gdL_next h.gd k hkl)))))))
      obtain ⟨⟨x, y, z⟩, hx⟩ : ∃ x, ls[k]'hkl = x := ⟨_, rfl⟩
      rw [hx] at c1 c2 c3 HB HS HSN HX
      dsimp only at c1 c2 c3 HB HS HSN HX
      have hba : Below w.heap.size w (wr.alloc (.cells #[.int .u64 x, .int .i64 y, .int .i64 z] 78)) := hB.alloc (by omega) _
      have aX := At.new wr #[.int .u64 x, .int .i64 y, .int .i64 z] 78
      by_cases h0 : x < 1
      · have HN : Hid (¬ OkK most ls) := fun h => by have := (HX.out h).1; omega
        have hd0 : decide (x < 1) = true := decide_eq_true h0
        clear hx HS HR HO HG HX HSN
        go_wp2
        go_quiet (fail)
        go_wp2
        go_ret
        exact ⟨sayl_no HN.out, (by repeat (first | with_reducible assumption | with_reducible exact Below.refl _ _ | with_reducible refine Below.drew ?_ | with_reducible refine Below.drewN ?_ _ | with_reducible refine Below.setCell ?_ (by first | omega | (simp; done) | (simp; omega)) _ | with_reducible refine Below.alloc ?_ (by first | omega | (simp; done) | (simp; omega) | (simp [World.setCell]; omega)) _))⟩
      · have hd0 : decide (x < 1) = false := decide_eq_false h0
        by_cases h1 : 9223372036854775808 ≤ x
        · have HN : Hid (¬ OkK most ls) := fun h => by have := (HX.out h).2.2; omega
          have hd1 : decide (9223372036854775808 ≤ x) = true := decide_eq_true h1
          clear hx HS HR HO HG HX HSN h0
          go_wp2
          go_quiet (fail)
          go_wp2
          go_ret
          exact ⟨sayl_no HN.out, (by repeat (first | with_reducible assumption | with_reducible exact Below.refl _ _ | with_reducible refine Below.drew ?_ | with_reducible refine Below.drewN ?_ _ | with_reducible refine Below.setCell ?_ (by first | omega | (simp; done) | (simp; omega)) _ | with_reducible refine Below.alloc ?_ (by first | omega | (simp; done) | (simp; omega) | (simp [World.setCell]; omega)) _))⟩
        · have hd1 : decide (9223372036854775808 ≤ x) = false := decide_eq_false h1
          have hw : IntKind.u64.wrap (n + x) = n + x := by have := HB.out; simp only [IntKind.wrap_u64]; omega
          by_cases h2 : 9223372036854775808 ≤ n + x
          · have HN : Hid (¬ OkK most ls) := fun h => by have h3 := (HX.out h).2.2; have h4 := HSN.out; have h5 := HG.out.1; omega
            have hd2 : decide (9223372036854775808 ≤ n + x) = true := decide_eq_true h2
            clear hx HS HR HO HG HX HSN h0 h1
            go_wp2
            go_quiet (fail)
            go_wp2
            go_ret
            exact ⟨sayl_no HN.out, (by repeat (first | with_reducible assumption | with_reducible exact Below.refl _ _ | with_reducible refine Below.drew ?_ | with_reducible refine Below.drewN ?_ _ | with_reducible refine Below.setCell ?_ (by first | omega | (simp; done) | (simp; omega)) _ | with_reducible refine Below.alloc ?_ (by first | omega | (simp; done) | (simp; omega) | (simp [World.setCell]; omega)) _))⟩
          · have hd2 : decide (9223372036854775808 ≤ n + x) = false := decide_eq_false h2
            by_cases h3 : z < y
            · have HN : Hid (¬ OkK most ls) := fun h => by have h3 := (HX.out h).2.1; omega
              have hd3 : decide (z < y) = true := decide_eq_true h3
              clear hx HS HR HO HG HX HSN h0 h1 h2
              go_wp2
              go_quiet (fail)
              go_wp2
              go_ret
              exact ⟨sayl_no HN.out, (by repeat (first | with_reducible assumption | with_reducible exact Below.refl _ _ | with_reducible refine Below.drew ?_ | with_reducible refine Below.drewN ?_ _ | with_reducible refine Below.setCell ?_ (by first | omega | (simp; done) | (simp; omega)) _ | with_reducible refine Below.alloc ?_ (by first | omega | (simp; done) | (simp; omega) | (simp [World.setCell]; omega)) _))⟩
            · have hd3 : decide (z < y) = false := decide_eq_false h3
              by_cases hk0 : k = 0
              · have HG2 : Hid (n + x = sumN (ls.take (k + 1)) ∧ GdL (ls.take (k + 1))) := ⟨by rw [HSN.out, ← HG.out.1], HS.out (by omega) (by omega) (.inl hk0)⟩
                have hd4 : decide ((0 : Int) < k) = false := decide_eq_false (by omega)
                have hd5 : decide (0 < k) = false := decide_eq_false (by omega)
                have hn1 : 0 ≤ n + x ∧ n + x ≤ 9223372036854775807 := by omega
                clear hx HS HR HO HG HX HSN h0 h1 h2 h3 hk0
                go_wp2
                go_quiet (fail)
                go_wp2
                go_roundw
                case rel => exact ⟨k + 1, n + x, by omega, by simp, rfl, hn1.1, hn1.2, HG2, (by repeat (first | with_reducible assumption | with_reducible exact Below.refl _ _ | with_reducible refine Below.drew ?_ | with_reducible refine Below.drewN ?_ _ | with_reducible refine Below.setCell ?_ (by first | omega | (simp; done) | (simp; omega)) _ | with_reducible refine Below.alloc ?_ (by first | omega | (simp; done) | (simp; omega) | (simp [World.setCell]; omega)) _))⟩
                case measure => simp [intOf]; omega
              · obtain ⟨j, rfl⟩ : ∃ j, k = j + 1 := ⟨k - 1, by omega⟩
                obtain ⟨g', o', e, hg', d1, d2, d3⟩ := (HR.out.below hB).at j (by omega)
                cases e
                have e1 : (ls[j + 1 - 1]'(by omega)) = ls[j]'(by omega) := rfl
                rw [e1] at HS HX
                obtain ⟨⟨x', y', z'⟩, hx'⟩ : ∃ x, ls[j]'(by omega) = x := ⟨_, rfl⟩
                rw [hx'] at d1 d2 d3 HS HX
                dsimp only at d1 d2 d3
                have v1 : IntKind.i64.wrap (((j + 1 : Nat) : Int) - 1) = j := by simp only [IntKind.wrap_i64]; omega
                have k0 : (0 : Int) < ((j + 1 : Nat) : Int) := by omega
                have k1 : (j : Int) < len := by omega
                have k2 : (0 : Int) ≤ j := by omega
                have hn1 : 0 ≤ n + x ∧ n + x ≤ 9223372036854775807 := by omega
                have hyz : y ≤ z := by omega
                have hx0 : 0 < x := by omega
                clear hx hx' HR HO e1 h0 h1 h2 h3 hk0
                go_wp2
                have hB1 : Below w.heap.size w (wr.alloc (.cells #[.int .u64 x, .int .i64 y, .int .i64 z] 78)) := hba
                have D := fun {v : Option Value} {i : Nat} (h : wr.cell? ⟨g, i, none⟩ = v) => cellB (Below.alloc (Below.refl wr.heap.size wr) (Nat.le_refl _) (.cells #[.int .u64 x, .int .i64 y, .int .i64 z] 78)) hg h
                replace d1 := D d1
                replace d2 := D d2
                replace d3 := D d3
                have hg1 : g < (wr.alloc (.cells #[.int .u64 x, .int .i64 y, .int .i64 z] 78)).heap.size := by simp; omega
                obtain ⟨lB, hlB⟩ : ∃ b, wr.heap.size = b := ⟨_, rfl⟩
                rw [hlB] at aX
                simp only [hlB]
                generalize wr.alloc (.cells #[.int .u64 x, .int .i64 y, .int .i64 z] 78) = W1 at aX hB1 d1 d2 d3 hg1 ⊢
                clear D hlB hba c1 c2 c3 hg hg' zB
                have hq1 := fun q : Far W1 => (And.intro (q.cell hg1 d1) (And.intro (q.cell hg1 d2) (q.cell hg1 d3)))
                have HC := Lib.hid fun W => dless_any x' y' z' x y z W
                by_cases hle : lless (x', y', z') (x, y, z)
                · have HG2 : Hid (n + x = sumN (ls.take (j + 1 + 1)) ∧ GdL (ls.take (j + 1 + 1))) := ⟨by rw [HSN.out, ← HG.out.1], HS.out hx0 hyz (.inr hle)⟩
                  rw [decide_eq_true hle] at HC
                  clear HS HX HSN HG hle
                  have hfar1 := fun x : Far W1 => (x.at aX).three
                  refine wp_region_far (by kernel_rfl) (by kernel_rfl) ?_
                  repeat (first | go_big_quiet_skip | (go_big_quiet_want; go_big_quiet_op; first | go_big_quiet_on | (apply Exists.intro; refine ⟨fun _ => ?_, ?_⟩; (focus (first | (refine far_of (HC.out _)))); go_big_quiet_on)))
                  refine wpQuiet_nil ?_
                  rintro _ ⟨xq, rfl⟩
                  clear hfar1
                  have hb2 := xq.below
                  obtain ⟨W2, hW2⟩ : ∃ W2, xq.far = W2 := ⟨_, rfl⟩
                  rw [hW2] at hb2 ⊢
                  have hB2 := keep1 hB1 (hb2.mono (Nat.le_refl _))
                  replace aX := aX.below hb2
                  have fX := aX.three
                  have lX := aX.lt
                  clear hq1 hW2 hb2 hd0 hd1 hd2 hd3
                  go_wp2
                  go_roundw
                  case rel => exact ⟨j + 1 + 1, n + x, by omega, by simp, rfl, hn1.1, hn1.2, HG2, hB2⟩
                  case measure => simp [intOf]; omega
                · have HN : Hid (¬ OkK most ls) := fun h => hle ((HX.out h).2.2.2.2.2 (by omega))
                  rw [decide_eq_false hle] at HC
                  clear HS HX HSN HG hle
                  have hfar1 := fun x : Far W1 => (x.at aX).three
                  refine wp_region_far (by kernel_rfl) (by kernel_rfl) ?_
                  repeat (first | go_big_quiet_skip | (go_big_quiet_want; go_big_quiet_op; first | go_big_quiet_on | (apply Exists.intro; refine ⟨fun _ => ?_, ?_⟩; (focus (first | (refine far_of (HC.out _)))); go_big_quiet_on)))
                  refine wpQuiet_nil ?_
                  rintro _ ⟨xq, rfl⟩
                  clear hfar1
                  have hb2 := xq.below
                  obtain ⟨W2, hW2⟩ : ∃ W2, xq.far = W2 := ⟨_, rfl⟩
                  rw [hW2] at hb2 ⊢
                  have hB2 := keep1 hB1 (hb2.mono (Nat.le_refl _))
                  clear hq1 hW2 hb2 hd0 hd1 hd2 hd3
                  go_wp2
                  go_ret
                  exact ⟨sayl_no HN.out, hB2⟩
    · obtain rfl : k = len := by omega
      have h := HG.out
      rw [List.take_of_length_le (by have := HLN.out; omega)] at h
      by_cases hm2 : (k : Int) ≤ most
      · have HY : Hid (OkK most ls) := ⟨h.2, by rw [← h.1]; exact hn, by rw [HLN.out]; exact hm2⟩
        have hd : decide ((k : Int) ≤ most) = true := decide_eq_true hm2
        clear HR HO HG h
        go_wp2
        go_ret
        exact ⟨sayl_yes HY.out, hB⟩
      · have HY : Hid (¬ OkK most ls) := fun h => hm2 (by have := h.ln; rw [HLN.out] at this; exact this)
        have hd : decide ((k : Int) ≤ most) = false := decide_eq_false hm2
        clear HR HO HG h
        go_wp2
        go_ret
        exact ⟨sayl_no HY.out, hB⟩
end Go.Proofs.Ytbmnebpjjghkpaa

