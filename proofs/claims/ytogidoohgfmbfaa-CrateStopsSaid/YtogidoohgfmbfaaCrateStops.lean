/- The walk of the statement CrateStops. -/
import Derived.Test.YtogidoohgfmbfaaProg
import Derived.Test.YtogidoohgfmbfaaOpen
import Derived.Test.YtogidoohgfmbfaaAlive07
import Derived.Test.YtogidoohgfmbfaaTurn
namespace Go.Proofs.Ytogidoohgfmbfaa
open Go.RowKit Go.Shelf

attribute [local go_sem] Oper.semAt_some

set_option maxHeartbeats 2000000 in
theorem crateStops_walk (w : World) (Alist : Option Addr) (clist : Nat) (list : List (Int × Int)) (rlist : Rd w Alist (list.flatMap fun x => [.int .i64 x.1, .int .u64 x.2])) (bdlist : ∀ x ∈ list, (-9223372036854775808 ≤ x.1 ∧ x.1 ≤ 9223372036854775807) ∧ (0 ≤ x.2 ∧ x.2 < 18446744073709551616)) (llist : list.length ≤ 9223372036854775807) (stop : Int) (bdstop : -9223372036854775808 ≤ stop ∧ stop ≤ 9223372036854775807) :
    Calls Try.prog 4 #[.slice Alist list.length clist, .int .i64 stop] w fun e w' => e = .returned (.bool true) ∧ Below w.heap.size w w' := by
  obtain ⟨h3, h4⟩ := bdstop
  have HR : Hid (RdP w Alist list) := rlist
  have HO : Hid (okP list) := bdlist
  clear rlist bdlist
  obtain ⟨len, hlen⟩ : ∃ len, list.length = len := ⟨_, rfl⟩
  rw [hlen] at llist ⊢
  refine calls_of_wp_marks Try.func4 rfl ?_
  simp only [Try.ntmps4, List.size_toArray, List.length_cons, List.length_nil, Nat.reduceAdd, Nat.reduceSub, Array.replicate_succ, Array.replicate_zero, List.push_toArray, List.append_toArray, List.nil_append, List.cons_append]
  go_wp2_with fail
  refine (alive_any _).mono ?_
  rintro e w1 ⟨rfl, hb1⟩
  have hbW : Below w.heap.size w w1 := Below.trans (by repeat (first | with_reducible assumption | with_reducible exact Below.refl _ _ | with_reducible refine Below.drew ?_ | with_reducible refine Below.drewN ?_ _ | with_reducible refine Below.setCell ?_ (by first | omega | (simp; done) | (simp; omega)) _ | with_reducible refine Below.alloc ?_ (by first | omega | (simp; done) | (simp; omega) | (simp [World.setCell]; omega)) _)) (hb1.mono (by first | omega | (simp; done) | (simp; omega) | (simp [World.setCell]; omega)))
  have s1 : At w1 w.heap.size #[.int .i64 stop] 3 := At.below ((At.new' _ _ _ rfl).alloc _) hb1
  have s2 : At w1 (w.heap.size + 1) #[.bool false] 4 := At.below (At.new' _ _ _ (by simp)) hb1
  have f1 := s1.one
  have f2 := s2.one
  have l2 := s2.lt
  clear hb1
  by_cases hl : 100 < len
  · have hl' : (100 : Int) < len := by omega
    go_wp2
    have d2 := (s2.set_any 0 (.bool true) rfl).one.1
    refine marks_none (v := .bool true) (by simp [results, Try.f4, go_sem, d2]) ⟨rfl, (by repeat (first | with_reducible assumption | with_reducible exact Below.refl _ _ | with_reducible refine Below.drew ?_ | with_reducible refine Below.drewN ?_ _ | with_reducible refine Below.setCell ?_ (by first | omega | (simp; done) | (simp; omega)) _ | with_reducible refine Below.alloc ?_ (by first | omega | (simp; done) | (simp; omega) | (simp [World.setCell]; omega)) _))⟩
  have hl' : ¬ (100 : Int) < len := by omega
  go_wp2_with fail
  refine (cnew _).mono ?_
  rintro e w2 ⟨b, rfl, hbe, hC, hb⟩
  obtain ⟨B, hBe⟩ : ∃ B, w1.heap.size = B := ⟨_, rfl⟩
  have h2 : Two B w1 w2 [b] [] (Crate w2 b [b] []) True := by
    have hlt := hC.lt b (by simp)
    have z1 := hb.size
    subst hBe
    refine ⟨hC, trivial, fun k hk => ?_, fun k hk => by simp at hk, fun k hk hn => by simp at hn, hb, z1⟩
    rw [List.mem_singleton] at hk; subst hk; omega
  clear hC hb hbe f1 f2 hl
  rw [hBe] at l2
  go_wp2
  go_loopw [7, 20] (fun _ i wr => ∃ k : Nat, ∃ S, k ≤ len ∧ i = .int .i64 k ∧ Hid (Two B w1 wr S [] (Crate wr b S (rowsOf (list.take k))) True)) (fun _ i _ => len - (intOf i).toNat)
  case atStart => exact ⟨0, [b], by omega, rfl, h2⟩
  case round =>
    obtain ⟨k, S, hk, rfl, H⟩ := hrel
    by_cases hlt : k < len
    · obtain ⟨g, o, rfl, hg, c1, c2⟩ := ((HR.out.below hbW).below (hBe ▸ H.out.below)).at k (by omega)
      obtain ⟨⟨b1, b2⟩, b3, b4⟩ := HO.out.at k (by omega)
      have HS := Lib.hid (rowsOf_take list k (by omega))
      obtain ⟨⟨x, y⟩, hx⟩ : ∃ x, list[k]'(by omega) = x := ⟨_, rfl⟩
      rw [hx] at c1 c2 b1 b2 b3 b4 HS
      clear hx
      dsimp only at c1 c2 b1 b2 b3 b4 HS
      have zH := H.out.size
      have HZ := fun h : Below wr.heap.size wr (wr.alloc (.cells #[.int .i64 x, .int .u64 y] 28)) => Lib.hid (H.out.belowW h (fun k => k.below h) (fun k => k))
      replace HZ := HZ ((Below.refl _ _).alloc (Nat.le_refl _) _)
      go_wp2_with fail
      refine (cstep _ x y HZ.out.x b3 b4 b1 b2).mono ?_
      rintro e w4 ⟨rfl, S3, hg3, hC3, hF3⟩
      have H3 := Lib.hid (HZ.out.stepX hg3 hC3 hC3.lt hF3 trivial)
      rw [← HS.out] at H3
      clear HZ hF3 hg3 hC3 H HS
      go_wp2
      go_roundw
      case rel => exact ⟨k + 1, S3, by omega, by simp, H3⟩
      case measure => simp [intOf]; omega
    · obtain rfl : k = len := by omega
      have H1 := H.out
      rw [List.take_of_length_le (by omega)] at H1
      replace H1 := Lib.hid H1
      clear H HO h2
      obtain ⟨ps, hps⟩ : ∃ ps, rowsOf list = ps := ⟨_, rfl⟩
      rw [hps] at H1
      have hln := H1.out.x.len
      go_wp2_with fail
      refine (crpairs_any wr _ ps H1.out.x.src (by omega)).mono ?_
      rintro e w5 ⟨A, cap, rfl, HA, hb⟩
      have hA1 : Hid (∀ g, A = some g → B ≤ g.block ∧ g.block < w5.heap.size) := fun g hg => ⟨Nat.le_trans H1.out.size (HA.base_le g hg).1, (HA.base_le g hg).2⟩
      replace H1 := Lib.hid (H1.out.belowW hb (fun k => k.below hb) (fun k => k))
      replace HA := Lib.hid HA.rd
      clear hb
      have z5 := H1.out.size
      have s1' := s1.of_below H1.out.below (by omega)
      have s2' := s2.of_below H1.out.below (by omega)
      go_wp2_with fail
      refine (crall_any _ _).mono ?_
      rintro e w6 ⟨rfl, rfl⟩
      go_wp2
      obtain ⟨C, hCe⟩ : ∃ C, w5.heap.size = C := ⟨_, rfl⟩
      refine gen_world (fun W => (At W C #[.slice A ps.length cap] 22 ∧ At W (C + 1) #[.int .i64 0] 3 ∧ At W (C + 2) #[.pointer (some ⟨b, 0, none⟩)] 24) ∧ Below w5.heap.size w5 W ∧ W.heap.size = C + 3) ?_ ?_
      · subst hCe
        exact ⟨⟨((At.new' _ _ _ rfl).alloc _).alloc _, (At.new' _ _ _ (by simp)).alloc _, At.new' _ _ _ (by simp)⟩, (by repeat (first | with_reducible assumption | with_reducible exact Below.refl _ _ | with_reducible refine Below.drew ?_ | with_reducible refine Below.drewN ?_ _ | with_reducible refine Below.setCell ?_ (by first | omega | (simp; done) | (simp; omega)) _ | with_reducible refine Below.alloc ?_ (by first | omega | (simp; done) | (simp; omega) | (simp [World.setCell]; omega)) _)), by simp⟩
      rintro W ⟨⟨a1, a2, a3⟩, hBW, hz⟩
      have t1 := s1'.below hBW
      have t2 := s2'.below hBW
      have HP := Lib.hid (Rd.below HA.out hBW)
      have hS := Lib.hid (CrS.below H1.out.x.src hBW)
      have hfin : Hid (∀ W', Frame [w.heap.size + 1, C + 1] W W' → Below w.heap.size w W') := fun W' hF => by
        have e1 : Below w.heap.size w w5 := hbW.trans (H1.out.below.mono (by omega))
        have e2 := keep1 e1 hBW
        exact hF.below e2 e2.size fun k hk => by simp only [List.mem_cons, List.not_mem_nil, or_false] at hk; omega
      rw [hCe] at hS hBW
      have hlw : w.heap.size + 2 ≤ C := by omega
      have hAC : Hid (∀ g, A = some g → w.heap.size + 2 ≤ g.block ∧ g.block < C) := fun g hg => by have := hA1.out g hg; omega
      clear HA H1 hA1 s1' s2' s1 s2 HR
      simp only [hCe, Nat.add_assoc, Nat.reduceAdd]
      refine' wp_range_crate C (p := some ⟨b, 0, none⟩) (xs := ps) (Bn := C + 2) rfl a3 hS.out (by omega)
        (fun pre W' => At W' (C + 1) #[.int .i64 pre.length] 3 ∧ At W' (w.heap.size + 1) #[.bool false] 4 ∧ Frame [w.heap.size + 1, C + 1] W W')
        (fun c pre W' => (c = .ret ∧ ∃ pre0 x, pre = pre0 ++ [x] ∧ ps[pre0.length]? ≠ some x) ∨
          (c = .exit 2 ∧ (pre.length : Int) = stop ∧ At W' (C + 1) #[.int .i64 pre.length] 3 ∧ At W' (w.heap.size + 1) #[.bool false] 4 ∧ Frame [w.heap.size + 1, C + 1] W W'))
        ?hI ?hIx ?h0 _ ?assign ?body ?done ?stop
      case assign =>
        intro l x W K hK
        simp only [List.setIfInBounds_toArray, List.set_cons_zero, List.set_cons_succ]
        gi_wp2
        exact hK
      case hI => exact OwnFrom.and (At.own _) (OwnFrom.and (At.own _) (frame_own _ _))
      case hIx =>
        intro c s W1 W2 row h hg hr
        rcases h with h | ⟨h1, h2, h3, h4, h5⟩
        · exact .inl h
        · exact .inr ⟨h1, h2, h3.grown hg fun r e => (hr r e).2, h4.grown hg fun r e => (hr r e).2, frame_own (β := Unit) _ _ () _ _ _ h5 hg hr⟩
      case h0 => exact ⟨a2, t2, Frame.refl _ _⟩
      case body =>
        rintro l pre x W' ⟨b1, b2, hF⟩ hlt2
        have c1 := b1.one
        have c2 := b2.one
        have c3 := (hF.at a1 (by simp; omega)).one.1
        have c4 := (hF.at t1 (by simp; omega)).one.1
        obtain ⟨g, o, rfl, hg, d1, d2⟩ := RdP.at (Frame.rd hF HP.out fun a e => by have := hAC.out a e; simp; omega) pre.length hlt2
        obtain ⟨⟨r1, r2⟩, hr⟩ : ∃ r, ps[pre.length]'hlt2 = r := ⟨_, rfl⟩
        rw [hr] at d1 d2
        dsimp only at d1 d2
        obtain ⟨x1, x2⟩ := x
        have hne : Hid (∀ {y : Int × Int}, (r1, r2) ≠ y → ps[pre.length]? ≠ some y) := fun h e => by rw [List.getElem?_eq_getElem hlt2, hr] at e; exact h (Option.some.inj e)
        clear hr
        have hk0 : (0 : Int) ≤ pre.length := by omega
        have hk1 : (pre.length : Int) < ps.length := by omega
        have hw : IntKind.i64.wrap ((pre.length : Int) + 1) = pre.length + 1 := by simp only [IntKind.wrap_i64]; omega
        by_cases e1 : r1 = x1
        · subst e1
          by_cases e2 : r2 = x2
          · subst e2
            by_cases e3 : (pre.length : Int) + 1 = stop
            · subst e3
              gi_wp2
              refine ⟨(KeepsOthers.setCell _ _ _).from _, .inr ⟨rfl, by simp, ?_, b2.set_other (by show w.heap.size + 1 ≠ C + 1; omega) _, hF.setc (by simp) _ _⟩⟩
              rw [List.length_append, List.length_singleton]
              exact b1.set_any 0 _ (by simp)
            · have e3' : ((pre.length : Int) + 1 == stop) = false := beq_eq_false_iff_ne.2 e3
              gi_wp2
              refine ⟨(KeepsOthers.setCell _ _ _).from _, KpB.set _ (by omega) (by omega) _ _, ?_, b2.set_other (by show w.heap.size + 1 ≠ C + 1; omega) _, hF.setc (by simp) _ _⟩
              rw [List.length_append, List.length_singleton]
              exact b1.set_any 0 _ (by simp)
          · have e2' : (r2 == x2) = false := beq_eq_false_iff_ne.2 e2
            have hnn := Lib.hid (hne.out (y := (r1, x2)) (fun h => e2 (Prod.mk.inj h).2))
            gi_wp2
            exact ⟨(KeepsOthers.setCell _ _ _).from _, .inl ⟨rfl, pre, _, rfl, hnn.out⟩⟩
        · have e1' : (r1 == x1) = false := beq_eq_false_iff_ne.2 e1
          have hnn := Lib.hid (hne.out (y := (x1, x2)) (fun h => e1 (Prod.mk.inj h).1))
          gi_wp2
          exact ⟨(KeepsOthers.setCell _ _ _).from _, .inl ⟨rfl, pre, _, rfl, hnn.out⟩⟩
      case done =>
        rintro D W' hD ⟨b1, b2, hF⟩ hK
        have c1 := b1.one
        have c2 := b2.one
        have c3 := (hF.at a1 (by simp; omega)).one.1
        have c4 := (hF.at t1 (by simp; omega)).one.1
        by_cases e3 : (ps.length : Int) = stop
        · subst e3
          go_wp2
          have hK' := (KeepsOthers.setCell W' ⟨w.heap.size + 1, 0, none⟩ (.bool true)).same D _ hK rfl
          have d2 := ((b2.set_any 0 (.bool true) rfl).putD hK').one.1
          exact marks_mark (v := .bool true) hK' (by simp [results, Try.f4, go_sem, d2]) ⟨rfl, (hfin.out _ (hF.setc (by simp) _ _)).putD hK' (by omega)⟩
        · have e3' : ((ps.length : Int) == stop) = false := beq_eq_false_iff_ne.2 e3
          go_wp2
          have hK' := (KeepsOthers.setCell W' ⟨w.heap.size + 1, 0, none⟩ (.bool true)).same D _ hK rfl
          have d2 := ((b2.set_any 0 (.bool true) rfl).putD hK').one.1
          exact marks_mark (v := .bool true) hK' (by simp [results, Try.f4, go_sem, d2]) ⟨rfl, (hfin.out _ (hF.setc (by simp) _ _)).putD hK' (by omega)⟩
      case stop =>
        rintro D c pre W' hD ⟨r, hr⟩ (⟨rfl, pre0, x, rfl, hne⟩ | ⟨rfl, hst, b1, b2, hF⟩) hK
        · exact absurd (by rw [← hr]; simp) hne
        · have c1 := b1.one
          have c2 := b2.one
          have c3 := (hF.at a1 (by simp; omega)).one.1
          have c4 := (hF.at t1 (by simp; omega)).one.1
          subst hst
          go_wp2
          have hK' := (KeepsOthers.setCell W' ⟨w.heap.size + 1, 0, none⟩ (.bool true)).same D _ hK rfl
          have d2 := ((b2.set_any 0 (.bool true) rfl).putD hK').one.1
          exact marks_mark (v := .bool true) hK' (by simp [results, Try.f4, go_sem, d2]) ⟨rfl, (hfin.out _ (hF.setc (by simp) _ _)).putD hK' (by omega)⟩
end Go.Proofs.Ytogidoohgfmbfaa

