/- Contract of package lumps: cost. -/
import Derived.Test.YtbmnebpjjghkpaaProg
import Derived.Test.YtbmnebpjjghkpaaLumpLay
namespace Go.Proofs.Ytbmnebpjjghkpaa
open Go.RowKit

theorem sumN_split2 {ls : List Lu} {i : Nat} (h : i + 1 < ls.length) : sumN ls = sumN (ls.take i) + ((lget ls i).1 + (lget ls (i + 1)).1) + sumN (ls.drop (i + 2)) := by
  conv => lhs; rw [split2 h]
  rw [sumN_append, sumN_cons, sumN_cons]
  omega
set_option maxRecDepth 100000 in
theorem kcost_any (b : Nat) (S : List Nat) (most : Int) (ls : List Lu) (i : Nat) (w : World) (h : SkR w b S most ls (sumN ls)) (hg : GdL ls) (hs : sumN ls ≤ 9223372036854775807) (hi : i + 1 < ls.length) (hl : ls.length ≤ 1048576) :
    Calls Try.prog 45 #[.pointer (some ⟨b, 0, none⟩), .int .i64 i, .int .u64 (sumN (ls.take i))] w fun e w' => e = .returned (.agg #[.int .u64 (costL ls i).1, .int .u64 (costL ls i).2]) ∧ Below w.heap.size w w' := by
  obtain ⟨A, c, _, hB⟩ := h
  have s1 := hB.at'
  have hsp := sumN_split2 hi
  have p1 := hg.pos _ (mem_lget (by omega : i < ls.length))
  have p2 := hg.pos _ (mem_lget hi)
  have t0 := sumN_nonneg (ls := ls.take i) fun x hx => hg.pos x (List.mem_of_mem_take hx)
  have d0 := sumN_nonneg (ls := ls.drop (i + 2)) fun x hx => hg.pos x (List.mem_of_mem_drop hx)
  obtain ⟨g, o, rfl, hg1, c1, _, _⟩ := hB.own.rd.at' i (by omega)
  obtain ⟨g', o', e, hg2, e1, _, _⟩ := hB.own.rd.at' (i + 1) hi
  cases e
  have HV : Hid (costL ls i = ((lget ls i).1 + (lget ls (i + 1)).1, min (sumN (ls.take i)) (sumN (ls.drop (i + 2))) + 1)) := rfl
  obtain ⟨n, hn⟩ : ∃ n, ls.length = n := ⟨_, rfl⟩
  obtain ⟨x, hx⟩ : ∃ x, (lget ls i).1 = x := ⟨_, rfl⟩
  obtain ⟨y, hy⟩ : ∃ y, (lget ls (i + 1)).1 = y := ⟨_, rfl⟩
  obtain ⟨ah, hah⟩ : ∃ a, sumN (ls.take i) = a := ⟨_, rfl⟩
  obtain ⟨be, hbe⟩ : ∃ a, sumN (ls.drop (i + 2)) = a := ⟨_, rfl⟩
  obtain ⟨tot, htot⟩ : ∃ t, sumN ls = t := ⟨_, rfl⟩
  rw [hn] at s1 hi hl
  rw [hx] at c1 HV hsp p1
  rw [hy] at e1 HV hsp p2
  rw [hah] at HV hsp t0 ⊢
  rw [hbe] at HV hsp d0
  rw [htot] at s1 hsp hs
  have v1 : IntKind.i64.wrap ((i : Int) + 1) = ((i + 1 : Nat) : Int) := by simp only [IntKind.wrap_i64]; omega
  have v2 : IntKind.u64.wrap (x + y) = x + y := by simp only [IntKind.wrap_u64]; omega
  have v3 : IntKind.u64.wrap (tot - ah) = tot - ah := by simp only [IntKind.wrap_u64]; omega
  have v4 : IntKind.u64.wrap (tot - ah - (x + y)) = be := by simp only [IntKind.wrap_u64]; omega
  have v5 : IntKind.u64.wrap (ah + 1) = ah + 1 := by simp only [IntKind.wrap_u64]; omega
  have v6 : IntKind.u64.wrap (be + 1) = be + 1 := by simp only [IntKind.wrap_u64]; omega
  have k0 : (0 : Int) ≤ i := by omega
  have k1 : (i : Int) < n := by omega
  have k2 : (0 : Int) ≤ ((i + 1 : Nat) : Int) := by omega
  have k3 : ((i + 1 : Nat) : Int) < n := by omega
  have f1 := s1.three
  have l1 := s1.lt
  clear hB hsp p1 p2 t0 d0 hn hx hy hah hbe htot hs hg hi hl
  go_enter Try.func45, Try.ntmps45
  go_wp2
  go_quiet (fail)
  go_wp2
  all_goals
    have a1 := At.new w #[.int .u64 0, .int .u64 0] 58
    have hmin : min ah be = ah ∨ min ah be = be := by omega
  · have a4 := (((a1.drewN nq).set_any 0 (.int .u64 (x + y)) rfl).set_any 1 (.int .u64 (be + 1)) rfl).two
    exact bodyPost_ret (v := .agg #[.int .u64 (x + y), .int .u64 (be + 1)]) (by simp only [results, Try.f45]; simp [go_sem, a4, v6]) rfl ⟨by rw [HV.out]; dsimp only; rw [show min ah be = be by omega], (by repeat (first | with_reducible assumption | with_reducible exact Below.refl _ _ | with_reducible refine Below.drew ?_ | with_reducible refine Below.drewN ?_ _ | with_reducible refine Below.setCell ?_ (by first | omega | (simp; done) | (simp; omega)) _ | with_reducible refine Below.alloc ?_ (by first | omega | (simp; done) | (simp; omega) | (simp [World.setCell]; omega)) _))⟩
  · have a4 := (((a1.drewN nq).set_any 0 (.int .u64 (x + y)) rfl).set_any 1 (.int .u64 (ah + 1)) rfl).two
    exact bodyPost_ret (v := .agg #[.int .u64 (x + y), .int .u64 (ah + 1)]) (by simp only [results, Try.f45]; simp [go_sem, a4, v5]) rfl ⟨by rw [HV.out]; dsimp only; rw [show min ah be = ah by omega], (by repeat (first | with_reducible assumption | with_reducible exact Below.refl _ _ | with_reducible refine Below.drew ?_ | with_reducible refine Below.drewN ?_ _ | with_reducible refine Below.setCell ?_ (by first | omega | (simp; done) | (simp; omega)) _ | with_reducible refine Below.alloc ?_ (by first | omega | (simp; done) | (simp; omega) | (simp [World.setCell]; omega)) _))⟩
end Go.Proofs.Ytbmnebpjjghkpaa

