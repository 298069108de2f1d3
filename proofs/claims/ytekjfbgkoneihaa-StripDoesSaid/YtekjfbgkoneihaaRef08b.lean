/- Contracts of the document's strip: First, Last. -/
import Derived.Test.YtekjfbgkoneihaaProg
import Derived.Test.YtekjfbgkoneihaaRef08
namespace Go.Proofs.Ytekjfbgkoneihaa
open Go.RowKit

/-- append to a new empty row. -/
theorem app_fresh (W : World) (ad : Addr) (c : Nat) (qs : List (Int × Int)) (hsrc : ∀ j u, (flatP qs)[j]? = some u → W.cell? (ad.add j) = some u) (hb : ad.block < W.heap.size) (hlen : qs.length ≤ 1048576) :
    ∃ A' c' w', (Builtin.append_ #[32, 32] 32 #[.slice (some ⟨W.heap.size, 0, none⟩) 0 0, .slice (some ad) qs.length c]).run Try.prog (W.alloc (.cells #[] 35)) = .ok (.slice A' qs.length c') w' ∧
      Own2 W.heap.size w' A' c' qs ∧ Below W.heap.size W w' := by
  have hown1 : Own2 W.heap.size (W.alloc (.cells #[] 35)) (some ⟨W.heap.size, 0, none⟩) 0 [] := World.ownsRow_made W #[] 0 (Nat.le_refl _) (Nat.zero_le _) rfl
  have hsrc' : ∀ j u, (flatP qs)[j]? = some u → (W.alloc (.cells #[] 35)).cell? (ad.add j) = some u := fun j u hj => by
    have h1 := (Below.refl W.heap.size W).alloc (Nat.le_refl _) (.cells #[] 35)
    exact (h1.cell (p := ad.add j) (by rw [Addr.add]; split <;> exact hb)).trans (hsrc j u hj)
  obtain ⟨A', c', w', hr, ho, hf, hk⟩ := run_app W.heap.size (some ⟨W.heap.size, 0, none⟩) 0 [] qs _ hown1 ad c hsrc' (by simp; omega) (by simp)
  simp only [List.length_nil, Nat.zero_add] at hr
  exact ⟨A', c', w', hr, ho, hf.below ((Below.refl _ W).alloc (Nat.le_refl _) _) (by simp) (fun k hk => by simp [blk] at hk; omega)⟩

/-- A part of a row of the call's own, appended to a new empty row. -/
theorem app_part {W : World} {g c : Nat} {ps : List (Int × Int)} (h : Own2 0 W (some ⟨g, 0, none⟩) c ps) (hlen : ps.length ≤ 4096) (i N : Nat) (hiN : i + N ≤ ps.length) (ad : Addr) (had : ad = ⟨g, i * 2, none⟩ ∨ (N = 0 ∧ ad = ⟨g, 0, none⟩)) (cp : Nat) :
    ∃ A' c' w', (Builtin.append_ #[32, 32] 32 #[.slice (some ⟨W.heap.size, 0, none⟩) 0 0, .slice (some ad) N cp]).run Try.prog (W.alloc (.cells #[] 35)) = .ok (.slice A' N c') w' ∧
      Own2 W.heap.size w' A' c' ((ps.drop i).take N) ∧ Below W.heap.size W w' := by
  have hl : ((ps.drop i).take N).length = N := by rw [List.length_take, List.length_drop]; omega
  have hg := (h.base_le ⟨g, 0, none⟩ rfl).2
  have := app_fresh W ad cp ((ps.drop i).take N) (fun j u hj => by
    rcases had with rfl | ⟨rfl, rfl⟩
    · rw [← flatP_take, List.getElem?_take] at hj
      split at hj
      · exact Own2.from (n := ps.length) h i j u hj
      · cases hj
    · rw [List.take_zero] at hj; cases hj) (by rcases had with rfl | ⟨_, rfl⟩ <;> exact hg) (by omega)
  rw [hl] at this
  exact this

/-- What First and Last of the document's strip leave. -/
def DouR (b : Nat) (S : List Nat) (most : Int) (ps : List (Int × Int)) (i : Nat) (w : World) (e : Ending) (w' : World) : Prop :=
  e = .returned (outV ps i) ∧ ∃ S', GrownS S S' w.heap.size ∧ DocS w' b S' most (if ps.length = 0 then ps else outF ps i) ∧ Frame S w w'

/-- The store of a new row, and of the answer. -/
theorem dou_some {m B : Nat} {A A' : Option Addr} {c c' i : Nat} {most x y : Int} {ps : List (Int × Int)} {w W w' : World} (hB : DocB w m A c most ps) (hi : i < ps.length) (hx : (ps.getD i (0, 0)).1 = x) (hy : (ps.getD i (0, 0)).2 = y)
    (hBe : w.heap.size = B) (hbW : Below w.heap.size w W) (ho : Own2 W.heap.size w' A' c' (outF ps i)) (hb : Below W.heap.size W w') :
    DouR m (m :: blk A) most ps i w (.returned (.tuple #[.agg #[.int .i64 x, .int .u64 y], .bool true])) (((w'.setCell ⟨m, 1, none⟩ (.slice A' (ps.length - 1) c')).setCell ⟨B, 0, none⟩ (.int .i64 x)).setCell ⟨B, 1, none⟩ (.int .u64 y)) ∨ ¬ B < W.heap.size := by
  by_cases hBW : B < W.heap.size
  case neg => exact .inr hBW
  refine .inl ?_
  have hbw := keep1 hbW hb
  have hlt := hB.at'.lt
  have hz := hbW.size
  have hbk : ∀ k ∈ blk A', W.heap.size ≤ k := fun k hk => by
    cases A' with
    | none => simp [blk] at hk
    | some a => simp only [blk, List.mem_singleton] at hk; subst hk; exact (ho.base_le a rfl).1
  have hmn : m ∉ blk A' := fun hm => by have := hbk m hm; omega
  refine ⟨by unfold outV; rw [if_neg (by omega), hx, hy], m :: blk A', fun k hk => ?_, ?_, ?_⟩
  · rcases List.mem_cons.1 hk with rfl | hk
    · exact .inl (by simp)
    · exact .inr (Nat.le_trans hz (hbk k hk))
  · rw [if_neg (by omega)]
    refine ⟨A', c', rfl, ?_, ?_, hmn⟩
    · rw [outF_length hi]
      exact (((hB.at'.below hbw).set_any 1 _ rfl).set_other (by show m ≠ B; omega) _).set_other (by show m ≠ B; omega) _
    · exact (((ho.mono (Nat.zero_le _)).frame (Frame.set [m] _ m 1 _ (by simp)) (fun k hk e => by simp at e; subst e; exact hmn hk)).frame (Frame.set [B] _ B 0 _ (by simp)) (fun k hk e => by simp at e; have := hbk k hk; omega)).frame (Frame.set [B] _ B 1 _ (by simp)) (fun k hk e => by simp at e; have := hbk k hk; omega)
  · exact (((Frame.of_below hbw).setc (.inl (by simp)) 1 _).setc (.inr (by omega)) 0 _).setc (.inr (by omega)) 1 _

theorem dfirst_empty (m : Nat) (S : List Nat) (most : Int) (w : World) (h : DocS w m S most []) :
    Calls Try.prog 24 #[.pointer (some ⟨m, 0, none⟩)] w fun e w' => DouR m S most [] 0 w e w' := by
  have H0 := Lib.hid h
  obtain ⟨A, c, rfl, hB⟩ := h
  have f1 := hB.at'.two
  have l1 := hB.at'.lt
  clear hB
  go_enter Try.func24, Try.ntmps24
  go_wp2
  have a1 := At.new w #[.int .i64 0, .int .u64 0] 35
  have x4 := ((a1.set_any 0 (.int .i64 0) rfl).set_any 1 (.int .u64 0) rfl).two
  exact bodyPost_ret (v := .tuple #[.agg #[.int .i64 0, .int .u64 0], .bool false]) (by simp only [results, Try.f24]; simp [go_sem, x4]) rfl ⟨rfl, _, GrownS.refl _ _, H0.out.below (by repeat (first | with_reducible assumption | with_reducible exact Below.refl _ _ | with_reducible refine Below.drew ?_ | with_reducible refine Below.drewN ?_ _ | with_reducible refine Below.setCell ?_ (by first | omega | (simp; done) | (simp; omega)) _ | with_reducible refine Below.alloc ?_ (by first | omega | (simp; done) | (simp; omega) | (simp [World.setCell]; omega)) _)), Frame.of_below (by repeat (first | with_reducible assumption | with_reducible exact Below.refl _ _ | with_reducible refine Below.drew ?_ | with_reducible refine Below.drewN ?_ _ | with_reducible refine Below.setCell ?_ (by first | omega | (simp; done) | (simp; omega)) _ | with_reducible refine Below.alloc ?_ (by first | omega | (simp; done) | (simp; omega) | (simp [World.setCell]; omega)) _))⟩
theorem dlast_empty (m : Nat) (S : List Nat) (most : Int) (w : World) (h : DocS w m S most []) :
    Calls Try.prog 25 #[.pointer (some ⟨m, 0, none⟩)] w fun e w' => DouR m S most [] (0 - 1) w e w' := by
  have H0 := Lib.hid h
  obtain ⟨A, c, rfl, hB⟩ := h
  have f1 := hB.at'.two
  have l1 := hB.at'.lt
  clear hB
  go_enter Try.func25, Try.ntmps25
  go_wp2
  have a1 := At.new w #[.int .i64 0, .int .u64 0] 35
  have x4 := ((a1.set_any 0 (.int .i64 0) rfl).set_any 1 (.int .u64 0) rfl).two
  exact bodyPost_ret (v := .tuple #[.agg #[.int .i64 0, .int .u64 0], .bool false]) (by simp only [results, Try.f25]; simp [go_sem, x4]) rfl ⟨rfl, _, GrownS.refl _ _, H0.out.below (by repeat (first | with_reducible assumption | with_reducible exact Below.refl _ _ | with_reducible refine Below.drew ?_ | with_reducible refine Below.drewN ?_ _ | with_reducible refine Below.setCell ?_ (by first | omega | (simp; done) | (simp; omega)) _ | with_reducible refine Below.alloc ?_ (by first | omega | (simp; done) | (simp; omega) | (simp [World.setCell]; omega)) _)), Frame.of_below (by repeat (first | with_reducible assumption | with_reducible exact Below.refl _ _ | with_reducible refine Below.drew ?_ | with_reducible refine Below.drewN ?_ _ | with_reducible refine Below.setCell ?_ (by first | omega | (simp; done) | (simp; omega)) _ | with_reducible refine Below.alloc ?_ (by first | omega | (simp; done) | (simp; omega) | (simp [World.setCell]; omega)) _))⟩

set_option maxRecDepth 100000 in
set_option maxHeartbeats 2000000 in
theorem dfirst_some (m : Nat) (S : List Nat) (most : Int) (ps : List (Int × Int)) (w : World) (h : DocS w m S most ps) (hn0 : 0 < ps.length) (hln : ps.length ≤ 4096) :
    Calls Try.prog 24 #[.pointer (some ⟨m, 0, none⟩)] w fun e w' => DouR m S most ps 0 w e w' := by
  obtain ⟨A, c, rfl, hB⟩ := h
  obtain ⟨g, rfl⟩ : ∃ g, A = some ⟨g, 0, none⟩ := by
    rcases hB.own.2 with ⟨_, h0⟩ | ⟨g, cp, cur, h, _⟩
    · omega
    · simp only [Value.slice.injEq] at h; exact ⟨g, h.1⟩
  have s1 := hB.at'
  obtain ⟨g', o, he, hg', hc1, hc2⟩ := hB.own.rd.at' 0 hn0
  cases he
  have hcp : ps.length ≤ c := by
    have := own_setRow w (show w.ownsRow 0 35 2 (.slice (some ⟨g, 0, none⟩) ps.length c) ps.length (flatP ps) from hB.own)
    obtain ⟨_, _, _, h, _⟩ := this
    exact h
  have HB := Lib.hid hB
  have HI := Lib.hid hn0
  have HLN := Lib.hid hln
  obtain ⟨n, hn⟩ : ∃ n, ps.length = n := ⟨_, rfl⟩
  obtain ⟨x, hx⟩ : ∃ x, (ps.getD 0 (0, 0)).1 = x := ⟨_, rfl⟩
  obtain ⟨y, hy⟩ : ∃ y, (ps.getD 0 (0, 0)).2 = y := ⟨_, rfl⟩
  have HN := Lib.hid (And.intro hn (And.intro hx hy))
  rw [hn] at s1 hn0 hcp hln
  rw [hx] at hc1
  rw [hy] at hc2
  rw [Nat.zero_mul, Nat.add_zero] at hc1 hc2
  have f1 := s1.two
  have l1 := s1.lt
  have n0 : ((n : Int) == 0) = false := beq_eq_false_iff_ne.2 (by omega)
  have n1 : (0 : Int) < n := by omega
  have n2 : (1 : Int) ≤ n := by omega
  have n3 : 1 ≤ n := by omega
  have n4 : 1 ≤ c := by omega
  clear hB hn hx hy hln
  go_enter Try.func24, Try.ntmps24
  go_upto_region 4 with fail
  refine gen_world (fun W => Hid (Below w.heap.size w W ∧ At W (w.heap.size + 1) #[.int .i64 x, .int .u64 y] 35 ∧ At W w.heap.size #[.int .i64 0, .int .u64 0] 35)) ?_ ?_
  · exact ⟨(by repeat (first | with_reducible assumption | with_reducible exact Below.refl _ _ | with_reducible refine Below.drew ?_ | with_reducible refine Below.drewN ?_ _ | with_reducible refine Below.setCell ?_ (by first | omega | (simp; done) | (simp; omega)) _ | with_reducible refine Below.alloc ?_ (by first | omega | (simp; done) | (simp; omega) | (simp [World.setCell]; omega)) _)), At.new' _ _ _ (by simp), (At.new' _ _ _ rfl).alloc _⟩
  rintro W HW
  have hbW := HW.out.1
  have s2 := s1.below hbW
  have f2 := s2.two
  have hBW := HW.out.2.2.lt
  have l2 := s2.lt
  have HO := Lib.hid (HB.out.own.below hbW)
  have hout : Hid (outF ps 0 = (ps.drop 1).take (n - 1)) := by
    show _ = _
    unfold outF
    rw [List.take_of_length_le (show (ps.drop 1).length ≤ n - 1 by rw [List.length_drop, HN.out.1]; omega)]
    rfl
  by_cases h1 : c = 1
  · obtain rfl : n = 1 := by omega
    subst h1
    obtain ⟨A', c', w', hr, ho, hb⟩ := app_part HO.out HLN.out 1 0 (by rw [HN.out.1]; omega) ⟨g, 0, none⟩ (.inr ⟨rfl, rfl⟩) 0
    replace hr := Lib.hid hr
    have f3 := (s2.below hb).two
    have p3 := (HW.out.2.1.below hb).two
    have r3 := (HW.out.2.2.below hb).two
    have u1 := (((HW.out.2.1.below hb).set_other (p := ⟨m, 1, none⟩) (by show w.heap.size + 1 ≠ m; omega) (.slice A' 0 c'))).two
    have u2 := ((((HW.out.2.2.below hb).set_other (p := ⟨m, 1, none⟩) (by show w.heap.size ≠ m; omega) (.slice A' 0 c')).set_any 0 (.int .i64 x) rfl).set_any 1 (.int .u64 y) rfl).two
    have HR : Hid (DouR m (m :: blk (some ⟨g, 0, none⟩)) most ps 0 w (.returned (.tuple #[.agg #[.int .i64 x, .int .u64 y], .bool true])) (((w'.setCell ⟨m, 1, none⟩ (.slice A' 0 c')).setCell ⟨w.heap.size, 0, none⟩ (.int .i64 x)).setCell ⟨w.heap.size, 1, none⟩ (.int .u64 y))) := by
      have := dou_some (i := 0) HB.out HI.out HN.out.2.1 HN.out.2.2 rfl hbW (by rw [hout.out]; exact ho) hb
      rw [HN.out.1] at this
      exact this.resolve_right (fun h => h hBW)
    clear ho hb
    go_wp2_with (at_builtin; refine Lib.wpList_append_run _ rfl _ _ _ _ rfl _ _ rfl rfl _ _ hr.out ?_)
    exact bodyPost_ret (v := .tuple #[.agg #[.int .i64 x, .int .u64 y], .bool true]) (by simp only [results, Try.f24]; simp [go_sem, u2]) rfl HR.out
  · obtain ⟨A', c', w', hr, ho, hb⟩ := app_part HO.out HLN.out 1 (n - 1) (by rw [HN.out.1]; omega) ⟨g, 1 * 2, none⟩ (.inl rfl) (c - 1)
    replace hr := Lib.hid hr
    have f3 := (s2.below hb).two
    have p3 := (HW.out.2.1.below hb).two
    have r3 := (HW.out.2.2.below hb).two
    have u1 := (((HW.out.2.1.below hb).set_other (p := ⟨m, 1, none⟩) (by show w.heap.size + 1 ≠ m; omega) (.slice A' (n - 1) c'))).two
    have u2 := ((((HW.out.2.2.below hb).set_other (p := ⟨m, 1, none⟩) (by show w.heap.size ≠ m; omega) (.slice A' (n - 1) c')).set_any 0 (.int .i64 x) rfl).set_any 1 (.int .u64 y) rfl).two
    have HR : Hid (DouR m (m :: blk (some ⟨g, 0, none⟩)) most ps 0 w (.returned (.tuple #[.agg #[.int .i64 x, .int .u64 y], .bool true])) (((w'.setCell ⟨m, 1, none⟩ (.slice A' (n - 1) c')).setCell ⟨w.heap.size, 0, none⟩ (.int .i64 x)).setCell ⟨w.heap.size, 1, none⟩ (.int .u64 y))) := by
      have := dou_some (i := 0) HB.out HI.out HN.out.2.1 HN.out.2.2 rfl hbW (by rw [hout.out]; exact ho) hb
      rw [HN.out.1] at this
      exact this.resolve_right (fun h => h hBW)
    clear ho hb
    go_wp2_with (at_builtin; refine Lib.wpList_append_run _ rfl _ _ _ _ rfl _ _ rfl rfl _ _ hr.out ?_)
    exact bodyPost_ret (v := .tuple #[.agg #[.int .i64 x, .int .u64 y], .bool true]) (by simp only [results, Try.f24]; simp [go_sem, u2]) rfl HR.out
end Go.Proofs.Ytekjfbgkoneihaa

