/- What the statements about lumps call, told by all values. -/
import Derived.Test.YtbmnebpjjghkpaaLumpFacts
namespace Go.Proofs.Ytbmnebpjjghkpaa
open Go.RowKit

def eLow (l : List (Int × Int)) : Int := if l.length = 0 then 0 else lowV (l.headD (0, 0)).1 l
def eHigh (l : List (Int × Int)) : Int := if l.length = 0 then 0 else highV (l.headD (0, 0)).1 l
def eIs (l : List (Int × Int)) : Bool := decide (l.length ≠ 0)
theorem kends_told (b : Nat) (S : List Nat) (most : Int) (ls : List Lu) (l : List (Int × Int)) (w : World) (h : Sk w b S most ls) (hl : ls.length ≤ 1048576) (hE : EndsI l ls) :
    Calls Try.prog 24 #[.pointer (some ⟨b, 0, none⟩)] w fun e w' => e = .returned (.tuple #[.int .i64 (eLow l), .int .i64 (eHigh l), .bool (eIs l)]) ∧ Below w.heap.size w w' := by
  unfold eLow eHigh eIs
  by_cases h0 : l.length = 0
  · have hl0 : l = [] := List.eq_nil_of_length_eq_zero h0
    obtain rfl := hE.ne.1 hl0
    rw [if_pos h0, if_pos h0]
    refine (kends_empty b S most w h).mono ?_
    rintro e w' ⟨rfl, rfl⟩
    exact ⟨by simp [h0], Below.refl _ _⟩
  · have hl0 : l ≠ [] := fun e => h0 (by rw [e]; rfl)
    rw [if_neg h0, if_neg h0]
    refine (kends_any b S most ls w h hl fun e => hl0 (hE.ne.2 e)).mono ?_
    rintro e w' ⟨rfl, hb⟩
    exact ⟨by rw [(hE.low h.gd hl0).1, hE.high hl0]; simp [h0], hb⟩
theorem vends_told (A : Option Addr) (len cap : Nat) (l : List (Int × Int)) (w : World) (hl : l.length = len) (hm : len ≤ 1048576) (hR : RdP w A l) :
    Calls Try.prog 25 #[.slice A len cap] w fun e w' => e = .returned (.tuple #[.int .i64 (eLow l), .int .i64 (eHigh l), .bool (eIs l)]) ∧ Below w.heap.size w w' := by
  unfold eLow eHigh eIs
  subst hl
  by_cases h0 : l.length = 0
  · rw [if_pos h0, if_pos h0, h0]
    exact vends_nil A cap w
  · rw [if_neg h0, if_neg h0, decide_eq_true h0]
    exact vends_any A _ cap l w rfl hm (by omega) hR
theorem docK_at {w : World} {m : Nat} {T : List Nat} {most : Int} {ls : List Lu} (h : DocK w m T most ls) : ∃ A c, At w m #[.int .i64 most, .slice A ls.length c] 37 ∧ RdL w A ls ∧ T = m :: blk A := by
  obtain ⟨A, c, e, h⟩ := h
  exact ⟨A, c, h.at', h.own.rd, e⟩
theorem upV_all {l : List (Int × Int)} (h : okP l) : upV l 9223372036854775807 = sumP l := by
  unfold upV
  rw [List.filter_eq_self.2 fun x hx => by simpa using (h x hx).1.2]
end Go.Proofs.Ytbmnebpjjghkpaa

