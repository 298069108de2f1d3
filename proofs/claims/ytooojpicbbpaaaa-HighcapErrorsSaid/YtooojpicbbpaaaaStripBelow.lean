/- Contract of package strip: Below. -/
import Derived.Test.YtooojpicbbpaaaaProg
import Derived.Test.YtooojpicbbpaaaaStripFind
namespace Go.Proofs.Ytooojpicbbpaaaa
open Go.RowKit

theorem snil_below (q : Int) (w : World) : Calls Try.prog 41 #[.pointer none, .int .i64 q] w fun e w' => e = .returned (.int .u64 0) ∧ Below w.heap.size w w' := by
  go_enter Try.func41, Try.ntmps41
  go_wp2_with fail
  refine (snil_pairs w).mono ?_
  rintro e w1 ⟨rfl, rfl⟩
  go_wp2
  go_loopw [5, 7, 11] (fun n _ i wr => n = .int .u64 0 ∧ i = .int .i64 0 ∧ Below w.heap.size w wr) (fun _ _ _ _ => 0)
  case atStart => exact ⟨rfl, rfl, Below.refl _ _⟩
  case round =>
    obtain ⟨rfl, rfl, hB⟩ := hrel
    go_wp2
    go_ret
    exact ⟨rfl, hB⟩

theorem sbelow_any (b : Nat) (S : List Nat) (most : Int) (ps : List (Int × Int)) (q : Int) (w : World) (h : Strip w b S most ps) :
    Calls Try.prog 41 #[.pointer (some ⟨b, 0, none⟩), .int .i64 q] w fun e w' => e = .returned (.int .u64 (upto ps q)) ∧ Below w.heap.size w w' := by
  have hl := h.len.2
  have HO := Lib.hid h.ok
  have HG := Lib.hid h.gd
  have HS0 := Lib.hid h.sum
  have HP := Lib.hid (spairs_any b S most ps w h)
  obtain ⟨len, hlen⟩ : ∃ len, ps.length = len := ⟨_, rfl⟩
  rw [hlen] at hl
  clear h
  go_enter Try.func41, Try.ntmps41
  go_wp2_with fail
  refine HP.out.mono ?_
  rintro e w1 ⟨A', c', rfl, ho, hb1⟩
  have HR := Lib.hid ho.rd
  rw [hlen]
  have z1 := hb1.size
  clear ho HP
  go_wp2
  go_loopw [5, 7, 11] (fun n _ i wr => ∃ k : Nat, ∃ m : Int, k ≤ len ∧ 0 ≤ m ∧ m ≤ 9223372036854775807 ∧ n = .int .u64 m ∧ i = .int .i64 k ∧ Hid (m = sumP ((ps.take k).filter fun x => decide (x.1 ≤ q))) ∧ Below w1.heap.size w1 wr) (fun _ _ i _ => len - (intOf i).toNat)
  case atStart => exact ⟨0, 0, by omega, by omega, by omega, rfl, rfl, rfl, Below.refl _ _⟩
  case round =>
    obtain ⟨k, m, hk, hm0, hm', rfl, rfl, HF, hB⟩ := hrel
    have zB := hB.size
    by_cases hlt : k < len
    · obtain ⟨g, o, rfl, hg, c1, c2⟩ := (HR.out.below hB).at k (by omega)
      obtain ⟨⟨b1, b2⟩, b3, b4⟩ := HO.out.at k (by omega)
      have HS := Lib.hid (sumP_filter_take ps (fun x => decide (x.1 ≤ q)) k (by omega))
      have hle1 := (sumP_filter_le (ps := ps.take (k + 1)) (fun x hx => HG.out.pos x (List.mem_of_mem_take hx)) (fun x => decide (x.1 ≤ q))).2
      have hle2 : sumP (ps.take (k + 1)) ≤ sumP ps := by
        have e := congrArg sumP (List.take_append_drop (k + 1) ps)
        rw [sumP_append] at e
        have := sumP_nonneg (ps := ps.drop (k + 1)) (fun x hx => HG.out.pos x (List.mem_of_mem_drop hx))
        omega
      have hle := Int.le_trans (Int.le_trans hle1 hle2) HS0.out
      clear hle1 hle2
      obtain ⟨⟨x, y⟩, hx⟩ : ∃ x, ps[k]'(by omega) = x := ⟨_, rfl⟩
      rw [HS.out] at hle
      rw [hx] at c1 c2 b1 b2 b3 b4 HS hle
      clear hx HR HO
      dsimp only at c1 c2 b1 b2 b3 b4 HS hle
      by_cases hc : x ≤ q
      · rw [if_pos (decide_eq_true hc)] at HS hle
        rw [← HF.out] at hle
        go_wp2
        go_roundw
        case rel => exact ⟨k + 1, m + y, by omega, by omega, by omega, by simp [IntKind.wrap_u64] <;> omega, rfl, Lib.hid (by have h1 := HS.out; have h2 := HF.out; omega), (by repeat (first | with_reducible assumption | with_reducible exact Below.refl _ _ | with_reducible refine Below.drew ?_ | with_reducible refine Below.drewN ?_ _ | with_reducible refine Below.setCell ?_ (by first | omega | (simp; done) | (simp; omega)) _ | with_reducible refine Below.alloc ?_ (by first | omega | (simp; done) | (simp; omega) | (simp [World.setCell]; omega)) _))⟩
        case measure => simp [intOf]; omega
      · rw [if_neg (by simpa using hc)] at HS
        clear hle
        go_wp2
        go_roundw
        case rel => exact ⟨k + 1, m, by omega, by omega, by omega, rfl, rfl, Lib.hid (by have h1 := HS.out; have h2 := HF.out; omega), (by repeat (first | with_reducible assumption | with_reducible exact Below.refl _ _ | with_reducible refine Below.drew ?_ | with_reducible refine Below.drewN ?_ _ | with_reducible refine Below.setCell ?_ (by first | omega | (simp; done) | (simp; omega)) _ | with_reducible refine Below.alloc ?_ (by first | omega | (simp; done) | (simp; omega) | (simp [World.setCell]; omega)) _))⟩
        case measure => simp [intOf]; omega
    · obtain rfl : k = len := by omega
      have h := HF.out
      rw [List.take_of_length_le (by omega)] at h
      replace h := Lib.hid h
      clear HR HO HF
      go_wp2
      go_ret
      exact ⟨by rw [show upto ps q = m from h.out.symm]; rfl, keep1 hb1 hB⟩
end Go.Proofs.Ytooojpicbbpaaaa

