/- The walk of the statement CrateEnds. -/
import Derived.Test.YtogidoohgfmbfaaProg
import Derived.Test.YtogidoohgfmbfaaOpen
import Derived.Test.YtogidoohgfmbfaaAlive07
namespace Go.Proofs.Ytogidoohgfmbfaa
open Go.RowKit

set_option maxHeartbeats 2000000 in
theorem crateEnds_walk (w : World) (first : Int) (bdfirst : -9223372036854775808 ≤ first ∧ first ≤ 9223372036854775807) (far : Int) (bdfar : -9223372036854775808 ≤ far ∧ far ≤ 9223372036854775807) (count : Int) (bdcount : 0 ≤ count ∧ count < 18446744073709551616) :
    Calls Try.prog 7 #[.int .i64 first, .int .i64 far, .int .u64 count] w fun e w' => e = .returned (.bool true) ∧ Below w.heap.size w w' := by
  obtain ⟨h1, h2⟩ := bdfirst
  obtain ⟨h3, h4⟩ := bdfar
  obtain ⟨h5, h6⟩ := bdcount
  by_cases hneg : far < 0
  · go_enter Try.func7, Try.ntmps7
    go_wp2_with fail
    refine (alive_any _).mono ?_
    rintro e w1 ⟨rfl, hb⟩
    go_wp2
    go_ret
    exact ⟨rfl, hb⟩
  by_cases hfar : 10000 < far
  · go_enter Try.func7, Try.ntmps7
    go_wp2_with fail
    refine (alive_any _).mono ?_
    rintro e w1 ⟨rfl, hb⟩
    go_wp2
    go_ret
    exact ⟨rfl, hb⟩
  by_cases hc0 : count = 0
  · subst hc0
    go_enter Try.func7, Try.ntmps7
    go_wp2_with fail
    refine (alive_any _).mono ?_
    rintro e w1 ⟨rfl, hb⟩
    go_wp2
    go_ret
    exact ⟨rfl, hb⟩
  have hc1 : (count == 0) = false := beq_eq_false_iff_ne.2 hc0
  by_cases hc2 : 1099511627776 < count
  · go_enter Try.func7, Try.ntmps7
    go_wp2_with fail
    refine (alive_any _).mono ?_
    rintro e w1 ⟨rfl, hb⟩
    go_wp2
    go_ret
    exact ⟨rfl, hb⟩
  by_cases hf2 : 4611686018427387904 < first
  · go_enter Try.func7, Try.ntmps7
    go_wp2_with fail
    refine (alive_any _).mono ?_
    rintro e w1 ⟨rfl, hb⟩
    go_wp2
    go_ret
    exact ⟨rfl, hb⟩
  have hw : IntKind.i64.wrap (first + far) = first + far := by simp only [IntKind.wrap_i64]; omega
  have hw2 : IntKind.u64.wrap (count + 1) = count + 1 := by simp only [IntKind.wrap_u64]; omega
  have HR := Lib.hid (rowRoom_two (f := first) (c := count) (d := far) (by omega) (by omega) (by omega))
  have HN := Lib.hid (rowAdd_nil (q := first) (c := count) (by omega) (by omega))
  have HM := Lib.hid (rowRoom_nil (q := first) (c := count) (by omega) (by omega))
  have hg : Hid (Gd [(first, count)]) := ⟨List.pairwise_singleton _ _, by simp; omega⟩
  have hsum : Hid (sumP [(first, count)] = count) := by show _ = _; rw [sumP_cons, sumP_nil, Int.add_zero]
  have hcn : Hid (∀ i, cnt [(first, count)] i = if first = i then count else 0) := fun i => by rw [cnt_cons, cnt_nil, Int.add_zero]
  go_enter Try.func7, Try.ntmps7
  go_wp2_with fail
  refine (alive_any _).mono ?_
  rintro e w1 ⟨rfl, hb1⟩
  go_wp2_with fail
  refine (cnew _).mono ?_
  rintro e w2 ⟨b, rfl, hbe, hC, hb⟩
  have hb2 : Below w.heap.size w w2 := keep1 hb1 hb
  have hW2 : Within [b] w.heap.size w2.heap.size := fun k hk => ⟨by rw [List.mem_singleton] at hk; have := hb1.size; omega, hC.lt k hk⟩
  clear hb hbe
  go_wp2_with fail
  refine (cadd w2 first count hC (by omega) (by omega) (by omega) (by omega)).mono ?_
  rintro e w3 (⟨hr, _⟩ | ⟨_, rfl, S, hgr, hC3, hF3⟩)
  · exact absurd HM.out hr
  rw [HN.out] at hC3
  have hb3 : Below w.heap.size w w3 := hF3.below' hb2 hb2.size hW2
  have hW3 : Within S w.heap.size w3.heap.size := hW2.grown hgr hb2.size hC3.lt
  clear hC hF3 hW2 hgr HM HN
  by_cases hfit : far ≤ 4095
  · go_wp2_with fail
    refine (cadd w3 (first + far) 1 hC3 (by omega) (by omega) (by omega) (by omega)).mono ?_
    rintro e w4 (⟨hr, _⟩ | ⟨hr, rfl, S4, hgr, hC4, hF4⟩)
    · exact absurd (HR.out.2 hfit) hr
    have hb4 : Below w.heap.size w w4 := hF4.below' hb3 hb3.size hW3
    have hs : Hid (cnt [(first, count)] (first + far) + 1 < 18446744073709551616) := by show _ < _; rw [hcn.out]; split <;> omega
    go_wp2_with fail
    refine (ctotal w4 hC4).mono ?_
    rintro e w5 ⟨rfl, rfl⟩
    rw [sumP_rowAdd hg.out (by omega) hs.out, hsum.out]
    go_wp2_with fail
    refine (crbelow_any w4 _ _ first hC4.src).mono ?_
    rintro e w5 ⟨rfl, hb5⟩
    have hge : count ≤ belowC first 0 (rowAdd [(first, count)] (first + far) 1) := by
      rw [belowC_upto hC4.gd hC4.sum]
      have h7 := cnt_le_upto hC4.gd.pos first
      rw [cnt_rowAdd hg.out (by omega) hs.out, hcn.out, if_pos rfl] at h7
      split at h7 <;> omega
    generalize belowC first 0 (rowAdd [(first, count)] (first + far) 1) = V at hge ⊢
    go_wp2
    go_ret
    exact ⟨by simp, keep1 hb4 hb5⟩
  · go_wp2_with fail
    refine (cadd w3 (first + far) 1 hC3 (by omega) (by omega) (by omega) (by omega)).mono ?_
    rintro e w4 (⟨_, rfl, hb⟩ | ⟨hr, _⟩)
    rotate_left
    · have := HR.out.1 hr; omega
    have hb4 := keep1 hb3 hb
    have hC4 := hC3.below hb
    clear hC3 hb3 hb
    have hne : first ≠ first + far := by omega
    go_wp2_with fail
    refine (ctotal w4 hC4).mono ?_
    rintro e w5 ⟨rfl, rfl⟩
    rw [hsum.out]
    go_wp2_with fail
    refine (cat w4 (first + far) hC4 (by omega) (by omega)).mono ?_
    rintro e w5 ⟨rfl, hb⟩
    rw [hcn.out, if_neg hne]
    have hb5 := keep1 hb4 hb
    have hC5 := hC4.below hb
    clear hC4 hb4 hb
    go_wp2_with fail
    refine (crpairs_any w5 _ _ hC5.src (by simp)).mono ?_
    rintro e w6 ⟨A, cap, rfl, _, hb⟩
    go_wp2
    go_ret
    exact ⟨rfl, keep1 hb5 hb⟩
end Go.Proofs.Ytogidoohgfmbfaa

