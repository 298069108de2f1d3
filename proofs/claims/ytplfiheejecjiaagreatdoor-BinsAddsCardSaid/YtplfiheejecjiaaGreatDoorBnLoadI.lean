/- What holds while bins load. -/
import Derived.Test.YtplfiheejecjiaaGreatDoorProg
import Derived.Test.YtplfiheejecjiaaGreatDoorBnLoadP
import Derived.Test.YtplfiheejecjiaaGreatDoorBnAsk
namespace Go.Proofs.YtplfiheejecjiaaGreatDoor
open Go.RowKit

def plus3Q (a b c : Int) : Int := if a + b + c ≤ 9223372036854775807 then a + b + c else 0
/-- Three counts. -/
theorem plus3_any (g : Nat) (a b c : Int) (w : World) (ha : 0 ≤ a ∧ a < 18446744073709551616) (hb : 0 ≤ b ∧ b < 18446744073709551616) (hc : 0 ≤ c ∧ c < 18446744073709551616)
    (h0 : w.cell? ⟨g, 0, none⟩ = some (.int .u64 a)) (h1 : w.cell? ⟨g, 1, none⟩ = some (.int .u64 b)) (h2 : w.cell? ⟨g, 2, none⟩ = some (.int .u64 c)) :
    Calls Tryz.prog 43 #[.slice (some ⟨g, 0, none⟩) 3 3] w fun e w' => e = .returned (.tuple #[.int .u64 (plus3Q a b c), .bool (decide (a + b + c ≤ 9223372036854775807))]) ∧ w = w' := by
  refine (plus_any (some ⟨g, 0, none⟩) 3 3 [a, b, c] w rfl (by omega) (by intro x hx; simp at hx; omega) (fun j hj => ⟨_, rfl, ?_⟩)).mono ?_
  · rcases (show j = 0 ∨ j = 1 ∨ j = 2 by omega) with rfl | rfl | rfl
    · simpa [Addr.add] using h0
    · simpa [Addr.add] using h1
    · simpa [Addr.add] using h2
  · rintro e w' ⟨rfl, rfl⟩
    refine ⟨?_, rfl⟩
    congr 1
    have hv : plusF 0 [a, b, c] = if a + b + c ≤ 9223372036854775807 then some (a + b + c) else none := by
      unfold plusF plusF plusF plusF
      by_cases h1 : 0 + a ≤ 9223372036854775807
      · rw [if_pos h1]
        by_cases h2 : 0 + a + b ≤ 9223372036854775807
        · rw [if_pos h2]
          by_cases h3 : 0 + a + b + c ≤ 9223372036854775807
          · rw [if_pos h3, if_pos (by omega), Int.zero_add]
          · rw [if_neg h3, if_neg (by omega)]
        · rw [if_neg h2, if_neg (by omega)]
      · rw [if_neg h1, if_neg (by omega)]
    rw [hv]
    unfold plusV plus3Q
    by_cases h : a + b + c ≤ 9223372036854775807
    · rw [if_pos h, if_pos h, decide_eq_true h]; rfl
    · rw [if_neg h, if_neg h, decide_eq_false h]; rfl

/-- The array of stores is at sb: what is in it behind kk rows. -/
def LdS (W : World) (sb : Nat) (s : Bool) (most : Int) (q0 q1 : List (Int × Int)) (lo0 lo1 : Int) (kk : Nat) (v0 v1 : Value) : Prop :=
  kk = 0 ∨
  (kk = 1 ∧ ∃ d D, v0 = .iface (sKnd s).T (.pointer (some ⟨d, 0, none⟩)) ∧ (∀ x ∈ D, sb < x) ∧ Sto W s d D most q0 (sumP q0 + lo0)) ∨
  (kk = 2 ∧ ∃ d D e E, (v0 = .iface (sKnd s).T (.pointer (some ⟨d, 0, none⟩)) ∧ v1 = .iface (sKnd s).T (.pointer (some ⟨e, 0, none⟩))) ∧ ((∀ x ∈ D, sb < x) ∧ ∀ x ∈ E, sb < x) ∧ Apart D E ∧ Sto W s d D most q0 (sumP q0 + lo0) ∧ Sto W s e E most q1 (sumP q1 + lo1))
/-- While Load runs: kk rows are in. -/
structure LdI (w W0 W : World) (sb : Nat) (s : Bool) (most : Int) (rep : Int → Int) (q0 q1 : List (Int × Int)) (lo0 lo1 : Int) (kk : Nat) (v0 v1 : Value) : Prop where
  fr : Frame [sb] W0 W
  as' : At W sb #[v0, v1] 105
  st : LdS W sb s most q0 q1 lo0 lo1 kk v0 v1
  ok : ∀ i < kk, RepOk rep (rowOf q0 q1 i) ∧ SLoad s most (rowOf q0 q1 i) (lostOf lo0 lo1 i)
  bl : Below w.heap.size w W
  ge : w.heap.size ≤ sb
section
variable {w W0 W W1 W2 : World} {sb : Nat} {s : Bool} {most : Int} {rep : Int → Int} {q0 q1 : List (Int × Int)} {lo0 lo1 : Int} {kk : Nat} {v0 v1 : Value}
theorem LdS.frame (h : LdS W sb s most q0 q1 lo0 lo1 kk v0 v1) (hF : Frame [sb] W W1) : LdS W1 sb s most q0 q1 lo0 lo1 kk v0 v1 := by
  have ap : ∀ D : List Nat, (∀ x ∈ D, sb < x) → Apart D [sb] := fun D hD j hj hm => by
    have := hD j hj
    simp at hm
    omega
  rcases h with rfl | ⟨rfl, d, D, e1, e2, e3⟩ | ⟨rfl, d, D, e, E, e1, e2, e3, e4, e5⟩
  · exact .inl rfl
  · exact .inr (.inl ⟨rfl, d, D, e1, e2, e3.frame hF (ap D e2)⟩)
  · exact .inr (.inr ⟨rfl, d, D, e, E, e1, e2, e3, e4.frame hF (ap D e2.1), e5.frame hF (ap E e2.2)⟩)
theorem LdI.below (h : LdI w W0 W sb s most rep q0 q1 lo0 lo1 kk v0 v1) (hb : Below W.heap.size W W1) : LdI w W0 W1 sb s most rep q0 q1 lo0 lo1 kk v0 v1 :=
  ⟨h.fr.trans (Frame.of_below hb), h.as'.below hb, h.st.frame (Frame.of_below hb), h.ok, keep1 h.bl hb, h.ge⟩
/-- Another store is in. -/
theorem LdI.more (h : LdI w W0 W sb s most rep q0 q1 lo0 lo1 kk v0 v1) (hk : kk < 2) {d : Nat} {D : List Nat} (hb : Below W.heap.size W W1) (hW : Within D W.heap.size W1.heap.size) (hS : Sto W1 s d D most (rowOf q0 q1 kk) (sumP (rowOf q0 q1 kk) + lostOf lo0 lo1 kk))
    (hr : RepOk rep (rowOf q0 q1 kk)) (hl : SLoad s most (rowOf q0 q1 kk) (lostOf lo0 lo1 kk)) :
    ∃ u0 u1, LdI w W0 (W1.setCell ⟨sb, kk, none⟩ (.iface (sKnd s).T (.pointer (some ⟨d, 0, none⟩)))) sb s most rep q0 q1 lo0 lo1 (kk + 1) u0 u1 := by
  have h1 := h.below hb
  have hF : Frame [sb] W1 (W1.setCell ⟨sb, kk, none⟩ (.iface (sKnd s).T (.pointer (some ⟨d, 0, none⟩)))) := Frame.set [sb] W1 sb kk _ (by simp)
  have hlt := h.as'.lt
  have hD : ∀ x ∈ D, sb < x := fun x hx => by have := (hW x hx).1; omega
  have hap : Apart D [sb] := fun j hj hm => by
    have := hD j hj
    simp at hm
    omega
  have hok : ∀ i < kk + 1, RepOk rep (rowOf q0 q1 i) ∧ SLoad s most (rowOf q0 q1 i) (lostOf lo0 lo1 i) := fun i hi => by
    rcases (by omega : i < kk ∨ i = kk) with h3 | rfl
    · exact h.ok i h3
    · exact ⟨hr, hl⟩
  have hbl : Below w.heap.size w (W1.setCell ⟨sb, kk, none⟩ (.iface (sKnd s).T (.pointer (some ⟨d, 0, none⟩)))) := h1.bl.setCell h.ge _
  rcases (by omega : kk = 0 ∨ kk = 1) with rfl | rfl
  · have e1 : rowOf q0 q1 0 = q0 := rfl
    have e2 : lostOf lo0 lo1 0 = lo0 := rfl
    rw [e1, e2] at hS
    exact ⟨_, _, h1.fr.trans hF, h1.as'.set_any 0 _ rfl, .inr (.inl ⟨rfl, d, D, rfl, hD, hS.frame hF hap⟩), hok, hbl, h.ge⟩
  · have e1 : rowOf q0 q1 1 = q1 := rfl
    have e2 : lostOf lo0 lo1 1 = lo1 := rfl
    rw [e1, e2] at hS
    rcases h.st with h3 | ⟨_, d0, D0, f1, f2, f3⟩ | ⟨h3, _⟩
    · omega
    · have hF0 : Frame [sb] W (W1.setCell ⟨sb, 1, none⟩ (.iface (sKnd s).T (.pointer (some ⟨d, 0, none⟩)))) := (Frame.of_below hb).trans hF
      refine ⟨_, _, h1.fr.trans hF, h1.as'.set_any 1 _ rfl, .inr (.inr ⟨rfl, d0, D0, d, D, ⟨f1, rfl⟩, ⟨f2, hD⟩, fun j hj hm => ?_, f3.frame hF0 (fun j hj hm => ?_), hS.frame hF hap⟩), hok, hbl, h.ge⟩
      · have := f3.lt j hj
        have := (hW j hm).1
        omega
      · have := f2 j hj
        simp at hm
        omega
    · omega
end
theorem LdI.start {w W0 : World} {sb : Nat} {s : Bool} {most : Int} {rep : Int → Int} {q0 q1 : List (Int × Int)} {lo0 lo1 : Int} {v0 v1 : Value} (h : At W0 sb #[v0, v1] 105) (hb : Below w.heap.size w W0) (hg : w.heap.size ≤ sb) : LdI w W0 W0 sb s most rep q0 q1 lo0 lo1 0 v0 v1 :=
  ⟨Frame.refl _ _, h, .inl rfl, fun i hi => by omega, hb, hg⟩
/-- What bins hold behind the last stores. -/
theorem BnB.stored {PB : List Nat} {W : World} {b pa c0 c1 d0 d1 : Nat} {k s : Bool} {part : Nat → Int} {rep : Int → Int} {S0 S1 D0 D1 : List Nat} {most t0 t1 z0 u0 u1 zero : Int} {ps0 ps1 q0 q1 : List (Int × Int)}
    (h : BnB PB W b k pa part rep s most c0 c1 S0 S1 ps0 ps1 t0 t1 z0) (h0 : Sto W s d0 D0 most q0 u0) (h1 : Sto W s d1 D1 most q1 u1) (n0 : b ∉ D0) (n1 : b ∉ D1) (ha : Apart D0 D1) (a0 : Apart PB D0) (a1 : Apart PB D1) :
    BnB PB (((W.setCell ⟨b, 3, none⟩ (.iface (sKnd s).T (.pointer (some ⟨d0, 0, none⟩)))).setCell ⟨b, 4, none⟩ (.iface (sKnd s).T (.pointer (some ⟨d1, 0, none⟩)))).setCell ⟨b, 5, none⟩ (.int .u64 zero)) b k pa part rep s most d0 d1 D0 D1 q0 q1 u0 u1 zero ∧
    Frame [b] W (((W.setCell ⟨b, 3, none⟩ (.iface (sKnd s).T (.pointer (some ⟨d0, 0, none⟩)))).setCell ⟨b, 4, none⟩ (.iface (sKnd s).T (.pointer (some ⟨d1, 0, none⟩)))).setCell ⟨b, 5, none⟩ (.int .u64 zero)) := by
  have hF : Frame [b] W (((W.setCell ⟨b, 3, none⟩ (.iface (sKnd s).T (.pointer (some ⟨d0, 0, none⟩)))).setCell ⟨b, 4, none⟩ (.iface (sKnd s).T (.pointer (some ⟨d1, 0, none⟩)))).setCell ⟨b, 5, none⟩ (.int .u64 zero)) :=
    ((Frame.set [b] W b 3 _ (by simp)).trans (Frame.set [b] _ b 4 _ (by simp))).trans (Frame.set [b] _ b 5 _ (by simp))
  have ap : ∀ D : List Nat, b ∉ D → Apart D [b] := fun D hD j hj hm => hD (by simp at hm; rwa [← hm])
  exact ⟨⟨((h.at'.set_any 3 _ rfl).set_any 4 _ rfl).set_any 5 _ rfl, h.pr.frame hF (ap PB h.nb), h0.frame hF (ap D0 n0), h1.frame hF (ap D1 n1), n0, n1, ha, h.nb, a0, a1⟩, hF⟩
theorem BLoadR.bad {b : Nat} {S : List Nat} {k : Bool} {part : Nat → Int} {rep : Int → Int} {s : Bool} {most : Int} {q0 q1 : List (Int × Int)} {lo0 lo1 zero : Int} {w w' : World} (h : ¬ BLoad rep s most q0 q1 lo0 lo1 zero) (hb : Below w.heap.size w w') : BLoadR b S k part rep s most q0 q1 lo0 lo1 zero w (.returned (.int .i64 1)) w' := .inr ⟨h, rfl, hb⟩
theorem RepOk.bad {rep : Int → Int} {q : List (Int × Int)} {j : Nat} (hj : j < q.length) (h : (q[j]'hj).1 < 0 ∨ rep (q[j]'hj).1 = 0) : ¬ RepOk rep q := fun k => by
  have := k _ (List.getElem_mem hj)
  rcases h with h | h
  · omega
  · exact this.2 h
theorem rep_step {rep : Int → Int} {q : List (Int × Int)} {j : Nat} (hj : j < q.length) (h : ∀ x ∈ q.take j, 0 ≤ x.1 ∧ rep x.1 ≠ 0) (h1 : 0 ≤ (q[j]'hj).1) (h2 : rep (q[j]'hj).1 ≠ 0) : ∀ x ∈ q.take (j + 1), 0 ≤ x.1 ∧ rep x.1 ≠ 0 := fun x hx => by
  rw [List.take_succ_eq_append_getElem hj] at hx
  rcases List.mem_append.1 hx with hx | hx
  · exact h x hx
  · rw [List.mem_singleton.1 hx]
    exact ⟨h1, h2⟩
end Go.Proofs.YtplfiheejecjiaaGreatDoor
