/- The walk of the statement ShareEven. -/
import Derived.Test.YtadnnpjnmfddmaaProg
import Derived.Test.YtadnnpjnmfddmaaOpen
import Derived.Test.YtadnnpjnmfddmaaAlive03
import Derived.Test.YtadnnpjnmfddmaaEven
namespace Go.Proofs.Ytadnnpjnmfddmaa
open Go.RowKit Go.Shelf

attribute [local go_sem] Oper.semAt_some

set_option maxRecDepth 100000 in
set_option maxHeartbeats 2000000 in
theorem shareEven_walk (w : World) (steps : Int) (bdsteps : -9223372036854775808 ≤ steps ∧ steps ≤ 9223372036854775807) (stop : Int) (bdstop : -9223372036854775808 ≤ stop ∧ stop ≤ 9223372036854775807) :
    Calls Try.prog 6 #[.int .i64 steps, .int .i64 stop] w fun e w' => e = .returned (.bool true) ∧ Below w.heap.size w w' := by
  obtain ⟨q1, q2⟩ := bdsteps
  obtain ⟨q3, q4⟩ := bdstop
  refine calls_of_wp_marks Try.func6 rfl ?_
  simp only [Try.ntmps6, List.size_toArray, List.length_cons, List.length_nil, Nat.reduceAdd, Nat.reduceSub, Array.replicate_succ, Array.replicate_zero, List.push_toArray, List.append_toArray, List.nil_append, List.cons_append]
  go_wp2_with fail
  refine (alive_any _).mono ?_
  rintro e w1 ⟨rfl, hb1⟩
  have hbW : Below w.heap.size w w1 := Below.trans (by repeat (first | with_reducible assumption | with_reducible exact Below.refl _ _ | with_reducible refine Below.drew ?_ | with_reducible refine Below.drewN ?_ _ | with_reducible refine Below.setCell ?_ (by first | omega | (simp; done) | (simp; omega)) _ | with_reducible refine Below.alloc ?_ (by first | omega | (simp; done) | (simp; omega) | (simp [World.setCell]; omega)) _)) (hb1.mono (by first | omega | (simp; done) | (simp; omega) | (simp [World.setCell]; omega)))
  have s1 : At w1 w.heap.size #[.int .i64 steps] 3 := At.below (((At.new' _ _ _ rfl).alloc _).alloc _) hb1
  have s2 : At w1 (w.heap.size + 1) #[.int .i64 stop] 3 := At.below ((At.new' _ _ _ (by simp)).alloc _) hb1
  have s3 : At w1 (w.heap.size + 2) #[.bool false] 4 := At.below (At.new' _ _ _ (by simp)) hb1
  have f1 := s1.one
  have f2 := s2.one
  have f3 := s3.one
  have l3 := s3.lt
  clear hb1
  by_cases hl : 200 < steps
  · go_wp2
    have d2 := (s3.set_any 0 (.bool true) rfl).one.1
    refine marks_none (v := .bool true) (by simp [results, Try.f6, go_sem, d2]) ⟨rfl, (by repeat (first | with_reducible assumption | with_reducible exact Below.refl _ _ | with_reducible refine Below.drew ?_ | with_reducible refine Below.drewN ?_ _ | with_reducible refine Below.setCell ?_ (by first | omega | (simp; done) | (simp; omega)) _ | with_reducible refine Below.alloc ?_ (by first | omega | (simp; done) | (simp; omega) | (simp [World.setCell]; omega)) _))⟩
  have g1 := (s1.alloc (.cells #[.int .i64 0] 3)).one
  go_wp2_with fail
  refine (even_any _ _).mono ?_
  rintro e w2 ⟨rfl, rfl⟩
  go_wp2
  obtain ⟨C, hCe⟩ : ∃ C, w1.heap.size = C := ⟨_, rfl⟩
  refine gen_world (fun W => (At W C #[.int .i64 0] 3 ∧ At W (C + 1) #[.int .i64 steps] 3) ∧ Below w1.heap.size w1 W ∧ W.heap.size = C + 2) ?_ ?_
  · subst hCe
    exact ⟨⟨(At.new' _ #[.int .i64 0] _ rfl).alloc _, At.new' _ _ _ (by simp)⟩, (by repeat (first | with_reducible assumption | with_reducible exact Below.refl _ _ | with_reducible refine Below.drew ?_ | with_reducible refine Below.drewN ?_ _ | with_reducible refine Below.setCell ?_ (by first | omega | (simp; done) | (simp; omega)) _ | with_reducible refine Below.alloc ?_ (by first | omega | (simp; done) | (simp; omega) | (simp [World.setCell]; omega)) _)), by simp⟩
  rintro W ⟨⟨a1, a2⟩, hBW, hz⟩
  have t1 := s1.below hBW
  have t2 := s2.below hBW
  have t3 := s3.below hBW
  have hfin : Hid (∀ W', Frame [w.heap.size + 2, C] W W' → Below w.heap.size w W') := fun W' hF => by
    have e2 := keep1 hbW hBW
    exact hF.below e2 e2.size fun k hk => by simp only [List.mem_cons, List.not_mem_nil, or_false] at hk; omega
  have hlw : w.heap.size + 3 ≤ C := by omega
  clear g1 s1 s2 s3 f1 f2 f3 hBW hbW
  simp only [hCe, Nat.add_assoc, Nat.reduceAdd]
  clear hCe
  refine' wp_range_even (p := steps) (Bn := C + 1) (by omega) rfl a2
    (fun pre W' => At W' C #[.int .i64 pre.length] 3 ∧ At W' (w.heap.size + 2) #[.bool false] 4 ∧ Frame [w.heap.size + 2, C] W W')
    (fun c pre W' => (c = .ret ∧ ∃ pre0 x, pre = pre0 ++ [x] ∧ (evenI steps)[pre0.length]? ≠ some x) ∨
      (c = .exit 0 ∧ (pre.length : Int) = stop ∧ At W' C #[.int .i64 pre.length] 3 ∧ At W' (w.heap.size + 2) #[.bool false] 4 ∧ Frame [w.heap.size + 2, C] W W'))
    ?hI ?hIx ?h0 _ ?assign ?body ?done ?stop
  case assign =>
    rintro l pre x W' K ⟨b1, b2, hF⟩ hK
    have zF := hF.size
    obtain ⟨Bx, hBx⟩ : ∃ Bx, W'.heap.size = Bx := ⟨_, rfl⟩
    simp only [List.setIfInBounds_toArray, List.set_cons_zero, List.set_cons_succ]
    gi_wp2
    refine hK Bx _ (by omega) (At.new' W' #[.int .u64 x.1, .int .u64 x.2] 24 hBx.symm) ?_ ?_ ?_
    · exact (KeepsOthers.alloc _ _).from _
    · exact (KpB.refl 0 _ W').alloc0 (by omega) _
    · exact ⟨b1.alloc _, b2.alloc _, hF.alloc _⟩
  case hI => exact OwnFrom.and (At.own _) (OwnFrom.and (At.own _) (frame_own _ _))
  case hIx =>
    intro c s W1 W2 row h hg hr
    rcases h with h | ⟨h1, h2, h3, h4, h5⟩
    · exact .inl h
    · exact .inr ⟨h1, h2, h3.grown hg fun r e => (hr r e).2, h4.grown hg fun r e => (hr r e).2, frame_own (β := Unit) _ _ () _ _ _ h5 hg hr⟩
  case h0 => exact ⟨a1, t3, Frame.refl _ _⟩
  case body =>
    rintro l pre x Bx W' hBx bX ⟨b1, b2, hF⟩ hlt2
    have c1 := b1.one
    have c2 := b2.one
    have cx := bX.two
    have c3 := (hF.at t1 (by simp; omega)).one.1
    have c4 := (hF.at t2 (by simp; omega)).one.1
    have hpos : 0 < steps := by
      rcases Int.lt_or_le 0 steps with h | h
      · exact h
      · rw [evenI_nil (by omega)] at hlt2; simp at hlt2
    obtain ⟨hlen, hat⟩ := evenI_pos hpos
    rw [hlen] at hlt2
    have hne : Hid (∀ {y : Int × Int}, ((pre.length : Int), steps) ≠ y → (evenI steps)[pre.length]? ≠ some y) := fun h e => by rw [hat _ (by omega)] at e; exact h (Option.some.inj e)
    clear hlen hat
    obtain ⟨x1, x2⟩ := x
    have v1 : IntKind.u64.wrap (pre.length : Int) = pre.length := by simp only [IntKind.wrap_u64]; omega
    have v2 : IntKind.u64.wrap steps = steps := by simp only [IntKind.wrap_u64]; omega
    have v3 : IntKind.i64.wrap ((pre.length : Int) + 1) = pre.length + 1 := by simp only [IntKind.wrap_i64]; omega
    dsimp only at cx bX
    by_cases e1 : x1 = pre.length
    · subst e1
      by_cases e2 : x2 = steps
      · subst e2
        by_cases e3 : (pre.length : Int) + 1 = stop
        · subst e3
          gi_wp2
          refine ⟨(KeepsOthers.setCell _ _ _).from _, .inr ⟨rfl, by simp, ?_, b2.set_other (by show w.heap.size + 2 ≠ C; omega) _, hF.setc (by simp) _ _⟩⟩
          rw [List.length_append, List.length_singleton]
          exact b1.set_any 0 _ (by simp)
        · have e3' : ((pre.length : Int) + 1 == stop) = false := beq_eq_false_iff_ne.2 e3
          gi_wp2
          refine ⟨(KeepsOthers.setCell _ _ _).from _, KpB.set _ (by omega) (by omega) _ _, ?_, b2.set_other (by show w.heap.size + 2 ≠ C; omega) _, hF.setc (by simp) _ _⟩
          rw [List.length_append, List.length_singleton]
          exact b1.set_any 0 _ (by simp)
      · have e2' : (x2 == steps) = false := beq_eq_false_iff_ne.2 e2
        have hnn := Lib.hid (hne.out (y := ((pre.length : Int), x2)) (fun h => e2 (Prod.mk.inj h).2.symm))
        gi_wp2
        exact ⟨(KeepsOthers.setCell _ _ _).from _, .inl ⟨rfl, pre, _, rfl, hnn.out⟩⟩
    · have e1' : (x1 == (pre.length : Int)) = false := beq_eq_false_iff_ne.2 e1
      have hnn := Lib.hid (hne.out (y := (x1, x2)) (fun h => e1 (Prod.mk.inj h).1.symm))
      gi_wp2
      exact ⟨(KeepsOthers.setCell _ _ _).from _, .inl ⟨rfl, pre, _, rfl, hnn.out⟩⟩
  case done =>
    rintro D W' hD ⟨b1, b2, hF⟩ hK
    have c2 := b2.one
    have c3 := (hF.at t1 (by simp; omega)).one.1
    have c4 := (hF.at t2 (by simp; omega)).one.1
    by_cases hpos : 0 < steps
    · rw [(evenI_pos hpos).1, show ((steps.toNat + 1 : Nat) : Int) = steps + 1 by omega] at b1
      have c1 := b1.one
      have v1 : IntKind.i64.wrap (steps + 1) = steps + 1 := by simp only [IntKind.wrap_i64]; omega
      by_cases e3 : steps + 1 = stop
      · subst e3
        go_wp2
        have hK' := (KeepsOthers.setCell W' ⟨w.heap.size + 2, 0, none⟩ (.bool true)).same D _ hK rfl
        have d2 := ((b2.set_any 0 (.bool true) rfl).putD hK').one.1
        exact marks_mark (v := .bool true) hK' (by simp [results, Try.f6, go_sem, d2]) ⟨rfl, (hfin.out _ (hF.setc (by simp) _ _)).putD hK' (by omega)⟩
      · have e3' : (steps + 1 == stop) = false := beq_eq_false_iff_ne.2 e3
        have m1 : max steps (-1) = steps := by omega
        go_wp2
        have hK' := (KeepsOthers.setCell W' ⟨w.heap.size + 2, 0, none⟩ (.bool true)).same D _ hK rfl
        have d2 := ((b2.set_any 0 (.bool true) rfl).putD hK').one.1
        exact marks_mark (v := .bool true) hK' (by simp [results, Try.f6, go_sem, d2]) ⟨rfl, (hfin.out _ (hF.setc (by simp) _ _)).putD hK' (by omega)⟩
    · rw [evenI_nil hpos, show (([] : List (Int × Int)).length : Int) = 0 from rfl] at b1
      have c1 := b1.one
      by_cases e3 : stop = 0
      · subst e3
        go_wp2
        have hK' := (KeepsOthers.setCell W' ⟨w.heap.size + 2, 0, none⟩ (.bool true)).same D _ hK rfl
        have d2 := ((b2.set_any 0 (.bool true) rfl).putD hK').one.1
        exact marks_mark (v := .bool true) hK' (by simp [results, Try.f6, go_sem, d2]) ⟨rfl, (hfin.out _ (hF.setc (by simp) _ _)).putD hK' (by omega)⟩
      · have e3' : ((0 : Int) == stop) = false := beq_eq_false_iff_ne.2 (by omega)
        by_cases e4 : steps = 0
        · subst e4
          go_wp2
          have hK' := (KeepsOthers.setCell W' ⟨w.heap.size + 2, 0, none⟩ (.bool true)).same D _ hK rfl
          have d2 := ((b2.set_any 0 (.bool true) rfl).putD hK').one.1
          exact marks_mark (v := .bool true) hK' (by simp [results, Try.f6, go_sem, d2]) ⟨rfl, (hfin.out _ (hF.setc (by simp) _ _)).putD hK' (by omega)⟩
        · by_cases e5 : steps = -1
          · subst e5
            go_wp2
            have hK' := (KeepsOthers.setCell W' ⟨w.heap.size + 2, 0, none⟩ (.bool true)).same D _ hK rfl
            have d2 := ((b2.set_any 0 (.bool true) rfl).putD hK').one.1
            exact marks_mark (v := .bool true) hK' (by simp [results, Try.f6, go_sem, d2]) ⟨rfl, (hfin.out _ (hF.setc (by simp) _ _)).putD hK' (by omega)⟩
          · have m1 : max steps (-1) = -1 := by omega
            have m3 : steps < 1 := by omega
            go_wp2
            have hK' := (KeepsOthers.setCell W' ⟨w.heap.size + 2, 0, none⟩ (.bool true)).same D _ hK rfl
            have d2 := ((b2.set_any 0 (.bool true) rfl).putD hK').one.1
            exact marks_mark (v := .bool true) hK' (by simp [results, Try.f6, go_sem, d2]) ⟨rfl, (hfin.out _ (hF.setc (by simp) _ _)).putD hK' (by omega)⟩
  case stop =>
    rintro D c pre W' hD ⟨r, hr⟩ (⟨rfl, pre0, x, rfl, hne⟩ | ⟨rfl, hst, b1, b2, hF⟩) hK
    · exact absurd (by rw [← hr]; simp) hne
    · have c1 := b1.one
      have c2 := b2.one
      have c3 := (hF.at t1 (by simp; omega)).one.1
      have c4 := (hF.at t2 (by simp; omega)).one.1
      subst hst
      go_wp2
      have hK' := (KeepsOthers.setCell W' ⟨w.heap.size + 2, 0, none⟩ (.bool true)).same D _ hK rfl
      have d2 := ((b2.set_any 0 (.bool true) rfl).putD hK').one.1
      exact marks_mark (v := .bool true) hK' (by simp [results, Try.f6, go_sem, d2]) ⟨rfl, (hfin.out _ (hF.setc (by simp) _ _)).putD hK' (by omega)⟩
end Go.Proofs.Ytadnnpjnmfddmaa

