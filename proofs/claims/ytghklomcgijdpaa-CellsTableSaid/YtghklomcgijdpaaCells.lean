/- Contracts of package cells: Good, next, Rep, Range, Len, Part. -/
import Derived.Test.YtghklomcgijdpaaProg
import Derived.Test.YtghklomcgijdpaaOver
import Derived.Test.YtghklomcgijdpaaCellsPure
import Derived.Test.YtghklomcgijdpaaAppU
namespace Go.Proofs.Ytghklomcgijdpaa
open Go.RowKit

/-- Can a closeness be? -/
def goodC (u v : Int) : Bool := decide (0 < u ∧ u < v ∧ v ≤ 2147483648)
theorem goodC_iff {u v : Int} : goodC u v = true ↔ 0 < u ∧ u < v ∧ v ≤ 2147483648 := by unfold goodC; exact decide_eq_true_iff

theorem cgood_any (u v : Int) (w : World) (h1 : 0 ≤ u) (h2 : u < 18446744073709551616) (h3 : 0 ≤ v) (h4 : v < 18446744073709551616) :
    Calls Try.prog 18 #[.agg #[.int .u64 u, .int .u64 v]] w fun e w' => e = .returned (.bool (goodC u v)) ∧ Below w.heap.size w w' := by
  have HG : Hid (goodC u v = decide (0 < u ∧ u < v ∧ v ≤ 2147483648)) := rfl
  by_cases a : 0 < u
  · by_cases b : u < v
    · have HE : Hid (goodC u v = decide (v ≤ 2147483648)) := by show _ = _; rw [HG.out]; simp [a, b]
      go_enter Try.func18, Try.ntmps18
      go_wp2
      go_ret
      exact ⟨by rw [HE.out]; rfl, (by repeat (first | with_reducible assumption | with_reducible exact Below.refl _ _ | with_reducible refine Below.drew ?_ | with_reducible refine Below.drewN ?_ _ | with_reducible refine Below.setCell ?_ (by first | omega | (simp; done) | (simp; omega)) _ | with_reducible refine Below.alloc ?_ (by first | omega | (simp; done) | (simp; omega) | (simp [World.setCell]; omega)) _))⟩
    · have HE : Hid (goodC u v = false) := by show _ = _; rw [HG.out]; simp [b]
      go_enter Try.func18, Try.ntmps18
      go_wp2
      go_ret
      exact ⟨by rw [HE.out]; rfl, (by repeat (first | with_reducible assumption | with_reducible exact Below.refl _ _ | with_reducible refine Below.drew ?_ | with_reducible refine Below.drewN ?_ _ | with_reducible refine Below.setCell ?_ (by first | omega | (simp; done) | (simp; omega)) _ | with_reducible refine Below.alloc ?_ (by first | omega | (simp; done) | (simp; omega) | (simp [World.setCell]; omega)) _))⟩
  · have HE : Hid (goodC u v = false) := by show _ = _; rw [HG.out]; simp [a]
    go_enter Try.func18, Try.ntmps18
    go_wp2
    go_ret
    exact ⟨by rw [HE.out]; rfl, (by repeat (first | with_reducible assumption | with_reducible exact Below.refl _ _ | with_reducible refine Below.drew ?_ | with_reducible refine Below.drewN ?_ _ | with_reducible refine Below.setCell ?_ (by first | omega | (simp; done) | (simp; omega)) _ | with_reducible refine Below.alloc ?_ (by first | omega | (simp; done) | (simp; omega) | (simp [World.setCell]; omega)) _))⟩
theorem rgoodC_any (u v : Int) (w : World) (h1 : 0 ≤ u) (h2 : u < 18446744073709551616) (h3 : 0 ≤ v) (h4 : v < 18446744073709551616) :
    Calls Try.prog 16 #[.agg #[.int .u64 u, .int .u64 v]] w fun e w' => e = .returned (.bool (goodC u v)) ∧ Below w.heap.size w w' := by
  have HG : Hid (goodC u v = decide (0 < u ∧ u < v ∧ v ≤ 2147483648)) := rfl
  by_cases a : 1 ≤ u
  · by_cases b : u < v
    · have HE : Hid (goodC u v = decide (v ≤ 2147483648)) := by show _ = _; rw [HG.out]; simp [b]; omega
      go_enter Try.func16, Try.ntmps16
      go_wp2
      go_ret
      exact ⟨by rw [HE.out]; rfl, (by repeat (first | with_reducible assumption | with_reducible exact Below.refl _ _ | with_reducible refine Below.drew ?_ | with_reducible refine Below.drewN ?_ _ | with_reducible refine Below.setCell ?_ (by first | omega | (simp; done) | (simp; omega)) _ | with_reducible refine Below.alloc ?_ (by first | omega | (simp; done) | (simp; omega) | (simp [World.setCell]; omega)) _))⟩
    · have HE : Hid (goodC u v = false) := by show _ = _; rw [HG.out]; simp [b]
      go_enter Try.func16, Try.ntmps16
      go_wp2
      go_ret
      exact ⟨by rw [HE.out]; rfl, (by repeat (first | with_reducible assumption | with_reducible exact Below.refl _ _ | with_reducible refine Below.drew ?_ | with_reducible refine Below.drewN ?_ _ | with_reducible refine Below.setCell ?_ (by first | omega | (simp; done) | (simp; omega)) _ | with_reducible refine Below.alloc ?_ (by first | omega | (simp; done) | (simp; omega) | (simp [World.setCell]; omega)) _))⟩
  · have HE : Hid (goodC u v = false) := by show _ = _; rw [HG.out]; simp; omega
    go_enter Try.func16, Try.ntmps16
    go_wp2
    go_ret
    exact ⟨by rw [HE.out]; rfl, (by repeat (first | with_reducible assumption | with_reducible exact Below.refl _ _ | with_reducible refine Below.drew ?_ | with_reducible refine Below.drewN ?_ _ | with_reducible refine Below.setCell ?_ (by first | omega | (simp; done) | (simp; omega)) _ | with_reducible refine Below.alloc ?_ (by first | omega | (simp; done) | (simp; omega) | (simp [World.setCell]; omega)) _))⟩
theorem overQ_nat {X y : Nat} (h : X < y * 18446744073709551616) : overQ (X : Int) (y : Int) = ((X / y : Nat) : Int) ∧ overOk (X : Int) (y : Int) = true := by
  have h' : (X : Int) < (y : Int) * 18446744073709551616 := by omega
  have := over_yes X y h'
  exact ⟨by rw [this.1]; rfl, this.2.2⟩
theorem overQ_nat_no {X y : Nat} (h : ¬ X < y * 18446744073709551616) : overQ (X : Int) (y : Int) = 0 ∧ overOk (X : Int) (y : Int) = false := by
  have h' : ¬ (X : Int) < (y : Int) * 18446744073709551616 := fun a => h (by omega)
  have := over_no X y h'
  exact ⟨this.1, this.2.2⟩

theorem next_fit {u v low : Nat} (hu : u < v) (hl : low ≤ mostN) : low * (v + u) < v * 18446744073709551616 := by
  have h1 : low * (v + u) ≤ mostN * (v + u) := Nat.mul_le_mul_right _ hl
  unfold mostN at h1
  omega
theorem next_high_no {u v r : Nat} (hu : u < v) (h : ¬ r * v < (v - u) * 18446744073709551616) : min (r * v / (v - u)) mostN = mostN := by
  have h1 : 18446744073709551616 ≤ r * v / (v - u) := by
    rw [Nat.le_div_iff_mul_le (by omega), Nat.mul_comm]
    omega
  unfold mostN
  omega

set_option maxRecDepth 100000 in
theorem next_any (u v low : Nat) (w : World) (hu0 : 0 < u) (hu : u < v) (hv : v ≤ 2147483648) (hl : low ≤ mostN) :
    Calls Try.prog 21 #[.agg #[.int .u64 u, .int .u64 v], .int .u64 low] w fun e w' => e = .returned (.tuple #[.int .u64 (repN u v low : Nat), .int .u64 (highN u v low : Nat)]) ∧ Below w.heap.size w w' := by
  have hl' : low < 18446744073709551616 := by unfold mostN at hl; omega
  have hfit := next_fit hu hl
  have F1 := overQ_nat hfit
  have HR : Hid (repN u v low = min (repR u v low) topN) := rfl
  have HH : Hid (highN u v low = if mostN < repR u v low then mostN else min (repR u v low * v / (v - u)) mostN) := rfl
  have HD : Hid (low * (v + u) / v = repR u v low) := rfl
  have v1 : IntKind.u64.wrap ((v : Int) + u) = ((v + u : Nat) : Int) := by simp only [IntKind.wrap_u64]; omega
  have v2 : IntKind.u64.wrap ((v : Int) - u) = ((v - u : Nat) : Int) := by simp only [IntKind.wrap_u64]; omega
  rw [HD.out] at F1
  have hrb := overQ_bd ((low * (v + u) : Nat) : Int) (v : Int) (by omega) (by omega)
  rw [F1.1] at hrb
  obtain ⟨r, hr⟩ : ∃ r, repR u v low = r := ⟨_, rfl⟩
  obtain ⟨s, hs⟩ : ∃ s, v + u = s := ⟨_, rfl⟩
  obtain ⟨d, hd⟩ : ∃ d, v - u = d := ⟨_, rfl⟩
  rw [hr] at HR HH F1 hrb
  rw [hs] at F1 v1
  rw [hd] at v2 HH
  obtain ⟨NR, hNR⟩ : ∃ NR, repN u v low = NR := ⟨_, rfl⟩
  obtain ⟨NH, hNH⟩ : ∃ NH, highN u v low = NH := ⟨_, rfl⟩
  rw [hNR] at HR ⊢
  rw [hNH] at HH ⊢
  clear hNR hNH
  have hd0 : 0 < d := by omega
  have hd1 : d ≤ 2147483648 := by omega
  have hs1 : s < 4294967296 := by omega
  have hno := Lib.hid (fun h => next_high_no (r := r) hu h)
  rw [hd] at hno
  have e1 : ((low : Int) * (s : Int)) = ((low * s : Nat) : Int) := by rw [Int.natCast_mul]
  replace F1 := Lib.hid F1
  clear HD hfit hr hs hd
  go_enter Try.func21, Try.ntmps21
  go_wp2_with fail
  refine (floor_any (low : Int) (s : Int) (v : Int) _ (by omega) (by omega) (by omega) (by omega) (by omega) (by omega)).mono ?_
  rintro e w1 ⟨rfl, hb⟩
  rw [e1, F1.out.1, F1.out.2]
  have s1 : At w1 w.heap.size #[.int .u64 u, .int .u64 v] 29 := At.below (At.new' _ _ _ rfl) hb
  have hB : Below w.heap.size w w1 := Below.trans (by repeat (first | with_reducible assumption | with_reducible exact Below.refl _ _ | with_reducible refine Below.drew ?_ | with_reducible refine Below.drewN ?_ _ | with_reducible refine Below.setCell ?_ (by first | omega | (simp; done) | (simp; omega)) _ | with_reducible refine Below.alloc ?_ (by first | omega | (simp; done) | (simp; omega) | (simp [World.setCell]; omega)) _)) (hb.mono (by first | omega | (simp; done) | (simp; omega) | (simp [World.setCell]; omega)))
  have f1 := s1.two
  have l1 := s1.lt
  have zB := hB.size
  clear hb F1 e1
  by_cases hm : mostN < r
  · have hm' : (9223372036854775808 : Int) < r := by unfold mostN at hm; omega
    have hmin : Hid ((NR : Int) = 9223372036854775807) := by show _ = _; rw [HR.out]; unfold mostN at hm; unfold topN; omega
    have hhi : Hid ((NH : Int) = 9223372036854775808) := by show _ = _; rw [HH.out, if_pos hm]; rfl
    clear hm HR HH
    go_wp2
    go_ret2
    exact ⟨by rw [hmin.out, hhi.out]; rfl, hB⟩
  · have hm' : ¬ (9223372036854775808 : Int) < r := by unfold mostN at hm; omega
    have e2 : ((r : Int) * (v : Int)) = ((r * v : Nat) : Int) := by rw [Int.natCast_mul]
    have HH2 := HH.out
    rw [if_neg hm] at HH2
    replace HH2 := Lib.hid HH2
    clear hm HH
    go_wp2_with fail
    refine (floor_any (r : Int) (v : Int) (d : Int) _ (by omega) (by omega) (by omega) (by omega) (by omega) (by omega)).mono ?_
    rintro e w2 ⟨rfl, hb⟩
    rw [e2]
    have hB2 := keep1 hB hb
    have hmin : Hid ((NR : Int) = min (r : Int) 9223372036854775807) := by show _ = _; rw [HR.out]; unfold topN; omega
    by_cases hf : r * v < d * 18446744073709551616
    · have F2 := overQ_nat hf
      have hqb := overQ_bd ((r * v : Nat) : Int) (d : Int) (by omega) (by omega)
      rw [F2.1] at hqb
      rw [F2.1, F2.2]
      obtain ⟨q, hq⟩ : ∃ q, r * v / d = q := ⟨_, rfl⟩
      rw [hq] at hqb HH2 ⊢
      clear hno e2 hb hf F2 hq HR
      by_cases hqm : mostN < q
      · have hqm' : (9223372036854775808 : Int) < q := by unfold mostN at hqm; omega
        have hE : Hid ((NH : Int) = 9223372036854775808) := by show _ = _; rw [HH2.out]; unfold mostN at hqm ⊢; omega
        clear hqm HH2
        go_wp2
        go_ret2
        exact ⟨by rw [hE.out, hmin.out]; first | rfl | simp, hB2⟩
      · have hqm' : ¬ (9223372036854775808 : Int) < q := by unfold mostN at hqm; omega
        have hE : Hid ((NH : Int) = q) := by show _ = _; rw [HH2.out]; unfold mostN at hqm ⊢; omega
        clear hqm HH2
        go_wp2
        go_ret2
        exact ⟨by rw [hE.out, hmin.out]; first | rfl | simp, hB2⟩
    · have F2 := overQ_nat_no hf
      rw [F2.1, F2.2]
      have hE := hno.out hf
      have hE2 : Hid ((NH : Int) = 9223372036854775808) := by show _ = _; rw [HH2.out, hE]; rfl
      clear hno e2 hb hf F2 hE HH2 HR
      go_wp2
      go_ret2
      exact ⟨by rw [hE2.out, hmin.out]; first | rfl | simp, hB2⟩

/-! A table of cells, as it is read. -/
def castL (L : List Nat) : List Int := L.map fun n : Nat => (n : Int)
theorem castL_length (L : List Nat) : (castL L).length = L.length := by simp [castL]
theorem castL_append (L : List Nat) (x : Nat) : castL (L ++ [x]) = castL L ++ [(x : Int)] := by simp [castL]
theorem castL_getD {L : List Nat} {j : Nat} (hj : j < L.length) : (castL L)[j]'(by rw [castL_length]; exact hj) = ((L.getD j 0 : Nat) : Int) := by
  simp [castL, List.getD_eq_getElem?_getD, hj]
theorem RdU.atN {w : World} {A : Option Addr} {L : List Nat} (h : RdU w A (castL L)) (j : Nat) (hj : j < L.length) : ∃ g o, A = some ⟨g, o, none⟩ ∧ g < w.heap.size ∧ w.cell? ⟨g, o + j, none⟩ = some (.int .u64 (L.getD j 0 : Nat)) := by
  obtain ⟨g, o, e, hg, hc⟩ := h.at j (by rw [castL_length]; exact hj)
  rw [castL_getD hj] at hc
  exact ⟨g, o, e, hg, hc⟩

theorem At.four {w : World} {b : Nat} {T : TypeId} {v0 v1 v2 v3 : Value} (h : At w b #[v0, v1, v2, v3] T) : (w.cell? ⟨b, 0, none⟩ = some v0 ∧ w.cell? ⟨b, 1, none⟩ = some v1 ∧ w.cell? ⟨b, 2, none⟩ = some v2 ∧ w.cell? ⟨b, 3, none⟩ = some v3) ∧
    (w.frozen? ⟨b, 0, none⟩ = false ∧ w.frozen? ⟨b, 1, none⟩ = false ∧ w.frozen? ⟨b, 2, none⟩ = false ∧ w.frozen? ⟨b, 3, none⟩ = false) := ⟨⟨h.cell rfl, h.cell rfl, h.cell rfl, h.cell rfl⟩, h.frozen 0, h.frozen 1, h.frozen 2, h.frozen 3⟩

/-- A table: how close; where its cells begin; what stands for them. -/
structure Tab (W : World) (b : Nat) (u v : Int) (L R : List Nat) : Prop where
  tab : ∃ A c A2 c2, At W b #[.int .u64 u, .int .u64 v, .slice A L.length c, .slice A2 R.length c2] 52 ∧ RdU W A (castL L) ∧ RdU W A2 (castL R)
  len : L.length ≤ 4096
  len2 : R.length ≤ 4096
theorem Tab.below {W W' : World} {b : Nat} {u v : Int} {L R : List Nat} (h : Tab W b u v L R) (hb : Below W.heap.size W W') : Tab W' b u v L R := by
  obtain ⟨⟨A, c, A2, c2, h1, h2, h3⟩, h4, h5⟩ := h
  exact ⟨⟨A, c, A2, c2, h1.below hb, h2.below hb, h3.below hb⟩, h4, h5⟩
theorem Tab.lt {W : World} {b : Nat} {u v : Int} {L R : List Nat} (h : Tab W b u v L R) : b < W.heap.size := by
  obtain ⟨⟨A, c, A2, c2, h1, h2, h3⟩, h4, h5⟩ := h
  exact h1.lt

def atL (L : List Nat) (i : Int) : Nat := if 0 ≤ i ∧ i < L.length then L.getD i.toNat 0 else 0
def highL (L : List Nat) (i : Int) : Nat := if 0 ≤ i ∧ i < L.length then (if i = L.length - 1 then mostN else L.getD (i.toNat + 1) 0 - 1) else 0

theorem clen_any (b : Nat) (u v : Int) (L R : List Nat) (w : World) (h : Tab w b u v L R) :
    Calls Try.prog 12 #[.pointer (some ⟨b, 0, none⟩)] w fun e w' => e = .returned (.int .i64 (L.length : Nat)) ∧ w = w' := by
  obtain ⟨⟨A, c, A2, c2, h1, h2, h3⟩, h4, h5⟩ := h
  have f1 := h1.four.1
  go_enter Try.func12, Try.ntmps12
  go_wp2
  go_ret
  exact ⟨rfl, rfl⟩
set_option maxRecDepth 100000 in
theorem cpart_any (b : Nat) (u v : Int) (L R : List Nat) (w : World) (h : Tab w b u v L R) :
    Calls Try.prog 20 #[.pointer (some ⟨b, 0, none⟩)] w fun e w' => e = .returned (.agg #[.int .u64 u, .int .u64 v]) ∧ Below w.heap.size w w' := by
  obtain ⟨⟨A, c, A2, c2, h1, h2, h3⟩, h4, h5⟩ := h
  have f1 := (h1.alloc (.cells #[.int .u64 0, .int .u64 0] 29)).four.1
  have s1 := At.new w #[.int .u64 0, .int .u64 0] 29
  go_enter Try.func20, Try.ntmps20
  go_wp2
  have d2 := (s1.set2 (.int .u64 u) (.int .u64 v)).two
  exact bodyPost_ret (v := .agg #[.int .u64 u, .int .u64 v]) (by simp only [results, Try.f20]; simp [go_sem, d2]) rfl ⟨rfl, (by repeat (first | with_reducible assumption | with_reducible exact Below.refl _ _ | with_reducible refine Below.drew ?_ | with_reducible refine Below.drewN ?_ _ | with_reducible refine Below.setCell ?_ (by first | omega | (simp; done) | (simp; omega)) _ | with_reducible refine Below.alloc ?_ (by first | omega | (simp; done) | (simp; omega) | (simp [World.setCell]; omega)) _))⟩

set_option maxRecDepth 100000 in
theorem crep_any (b : Nat) (u v : Int) (L R : List Nat) (i : Int) (w : World) (h : Tab w b u v L R) :
    Calls Try.prog 11 #[.pointer (some ⟨b, 0, none⟩), .int .i64 i] w fun e w' => e = .returned (.int .u64 (atL R i : Nat)) ∧ w = w' := by
  obtain ⟨⟨A, c, A2, c2, h1, h2, h3⟩, h4, h5⟩ := h
  have f1 := h1.four.1
  by_cases a : 0 ≤ i ∧ i < R.length
  · obtain ⟨a1, a2⟩ := a
    obtain ⟨k, rfl⟩ := Int.eq_ofNat_of_zero_le a1
    obtain ⟨g, o, rfl, hg, hc⟩ := h3.atN k (by omega)
    have HE : Hid (atL R k = R.getD k 0) := by show _ = _; unfold atL; rw [if_pos ⟨a1, a2⟩]; rfl
    rw [HE.out]
    obtain ⟨x, hx⟩ : ∃ x, R.getD k 0 = x := ⟨_, rfl⟩
    rw [hx] at hc ⊢
    obtain ⟨n, hn⟩ : ∃ n, R.length = n := ⟨_, rfl⟩
    rw [hn] at f1 a2 h5
    have a3 : ¬ (k : Int) < 0 := by omega
    have a4 : ¬ (n : Int) ≤ k := by omega
    clear h1 h2 h3 hx hn HE
    go_enter Try.func11, Try.ntmps11
    go_wp2
    go_ret
    exact ⟨rfl, rfl⟩
  · have HE : Hid (atL R i = 0) := by show _ = _; unfold atL; rw [if_neg a]
    rw [HE.out]
    obtain ⟨n, hn⟩ : ∃ n, R.length = n := ⟨_, rfl⟩
    rw [hn] at f1 a h5
    clear h1 h2 h3 hn HE
    by_cases a1 : i < 0
    · clear a
      go_enter Try.func11, Try.ntmps11
      go_wp2
      go_ret
      exact ⟨rfl, rfl⟩
    · have a2 : (n : Int) ≤ i := by omega
      clear a
      go_enter Try.func11, Try.ntmps11
      go_wp2
      go_ret
      exact ⟨rfl, rfl⟩
end Go.Proofs.Ytghklomcgijdpaa

