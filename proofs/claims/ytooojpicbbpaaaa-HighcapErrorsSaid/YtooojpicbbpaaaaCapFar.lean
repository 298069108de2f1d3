/- Plain laws: what leaves a row at its far end; no program in sight. -/
import Derived.Test.YtooojpicbbpaaaaCap
import Derived.Test.YtooojpicbbpaaaaStripOut
namespace Go.Proofs.Ytooojpicbbpaaaa

/-- The far end. -/
def farI (s : Bool) (ps : List (Int × Int)) : Nat := if s then 0 else ps.length - 1
def near (s : Bool) (most e : Int) (ps : List (Int × Int)) : List (Int × Int) := ps.filter fun x => decide (gap s e x.1 < most)
section
variable {s : Bool} {most e : Int} {ps : List (Int × Int)}
theorem farI_lt (h : ps ≠ []) : farI s ps < ps.length := by
  have := List.length_pos_iff.2 h
  unfold farI
  split <;> omega
theorem far_gap (h : Gd ps) : ∀ x ∈ ps, gap s e x.1 ≤ gap s e (ps.getD (farI s ps) (0, 0)).1 := by
  intro x hx
  obtain ⟨a, ha, rfl⟩ := List.getElem_of_mem hx
  have h1 := h.le (i := 0) (j := a) (by omega) ha
  have h2 := h.le (i := a) (j := ps.length - 1) (by omega) (by omega)
  rw [@List.getD_eq_getElem?_getD _ ps a, List.getElem?_eq_getElem ha, Option.getD_some] at h1 h2
  unfold gap farI
  cases s with
  | true => simp only [if_true]; omega
  | false => simp only [Bool.false_eq_true, if_false]; omega
theorem near_all (h : Gd ps) (hg : gap s e (ps.getD (farI s ps) (0, 0)).1 < most) : near s most e ps = ps :=
  List.filter_eq_self.2 fun x hx => decide_eq_true (Int.lt_of_le_of_lt (far_gap h x hx) hg)
theorem near_out (i : Nat) (hi : i < ps.length) (hg : most ≤ gap s e (ps.getD i (0, 0)).1) : near s most e (outF ps i) = near s most e ps := by
  unfold near
  conv => rhs; rw [outF_split hi]
  unfold outF
  rw [List.filter_append, List.filter_append, List.filter_cons_of_neg (by rw [decide_eq_true_eq]; omega)]
theorem near_nil : near s most e [] = [] := rfl
theorem near_sum (h : Gd ps) : 0 ≤ sumP (near s most e ps) ∧ sumP (near s most e ps) ≤ sumP ps := sumP_filter_le h.pos _
theorem near_gd (h : Gd ps) : Gd (near s most e ps) := h.filter _
theorem near_self (h : Gd ps) (hw : Win s most ps) (hg : 0 ≤ gap s (endP s ps) e) : near s most e ps = ps := by
  refine List.filter_eq_self.2 fun x hx => decide_eq_true ?_
  have := hw x hx
  have := gap_add s (endP s ps) e x.1
  omega
theorem capRow_no {q c : Int} (h : ¬ (ps.length ≠ 0 ∧ most ≤ gap s (endP s ps) q)) : capRow s most ps q c = rowAdd (near s most q ps) q c := by unfold capRow; rw [if_neg h]; rfl
theorem capRow_yes {q c : Int} (h : ps.length ≠ 0) (h' : most ≤ gap s (endP s ps) q) : capRow s most ps q c = ps := by unfold capRow; rw [if_pos ⟨h, h'⟩]
theorem near_room {q c : Int} (h : Gd ps) (hw : Win s most ps) (hm : 1 ≤ most) (hc : 0 < c) (hs : sumP ps + c ≤ 9223372036854775807) (hn : ¬ (ps.length ≠ 0 ∧ most ≤ gap s (endP s ps) q)) : stRoom most (near s most q ps) q c := by
  have h1 := (near_sum (s := s) (most := most) (e := q) h).2
  have h2 : cnt ps q + c < 18446744073709551616 := by have := cnt_le_sumP h.pos q; omega
  refine ⟨by omega, ?_⟩
  rw [← capRow_no hn]
  exact win_len (capRow_gd h hc h2) (capRow_win h hw hm hc h2) hm
end
end Go.Proofs.Ytooojpicbbpaaaa

