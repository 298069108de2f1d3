/- Partitions by digits, and by a table; the document's, by a table. -/
import Derived.Test.YtondkkhagbcadaaGreatProg
import Derived.Test.YtondkkhagbcadaaGreatSto
namespace Go.Proofs.YtondkkhagbcadaaGreat
open Go.RowKit

theorem prt_span (a : Nat) (d : Int) (w : World) (h : SpanAt w a d) : Prt w true a (partD d) (repD d) := absurd h.d4 (by have := h.d1; omega)
/-! ## By a table. -/
/-- The cell of a magnitude: how many cells begin no later, less one. -/
def partT (L : List Nat) (m : Nat) : Int := ((L.filter fun x => decide (x ≤ m)).length : Int) - 1
theorem sorted_at {L : List Nat} (hs : L.Pairwise (· < ·)) {i j : Nat} (hij : i ≤ j) (hj : j < L.length) : L.getD i 0 ≤ L.getD j 0 := sorted_getD hs hij hj
theorem filter_cell {L : List Nat} (hs : L.Pairwise (· < ·)) {m i : Nat} (h : cellAt L m i) : (L.filter fun x => decide (x ≤ m)).length = i + 1 := by
  obtain ⟨h1, h2, h3⟩ := h
  have e : L = L.take (i + 1) ++ L.drop (i + 1) := (List.take_append_drop _ _).symm
  have f1 : (L.take (i + 1)).filter (fun x => decide (x ≤ m)) = L.take (i + 1) := List.filter_eq_self.2 fun x hx => by
    obtain ⟨j, hj, rfl⟩ := List.getElem_of_mem hx
    rw [List.length_take] at hj
    rw [List.getElem_take, getD_at]
    have := sorted_at hs (i := j) (j := i) (by omega) h1
    exact decide_eq_true (by omega)
  have f2 : (L.drop (i + 1)).filter (fun x => decide (x ≤ m)) = [] := List.filter_eq_nil_iff.2 fun x hx => by
    obtain ⟨j, hj, rfl⟩ := List.getElem_of_mem hx
    rw [List.length_drop] at hj
    rw [List.getElem_drop, getD_at]
    have h4 := h3 (by omega)
    have := sorted_at hs (i := i + 1) (j := i + 1 + j) (by omega) (by omega)
    simp only [decide_eq_true_eq]
    omega
  rw [e, List.filter_append, f1, f2, List.append_nil, List.length_take]
  omega
theorem partT_cell {L : List Nat} (hs : L.Pairwise (· < ·)) {m i : Nat} (h : cellAt L m i) : partT L m = i := by
  unfold partT
  rw [filter_cell hs h]
  omega
/-- A table that can be. -/
structure TabOk (u v : Nat) (L : List Nat) : Prop where
  h : cellsF u v 4096 1 = some L
  u0 : 0 < u
  uv : u < v
  v1 : v ≤ 2147483648
section
variable {u v : Nat} {L : List Nat}
theorem TabOk.chain (h : TabOk u v L) : Chain u v 1 L := (chain_of h.h).1
theorem TabOk.len (h : TabOk u v L) : L.length ≤ 4096 := (chain_of h.h).2
theorem TabOk.srt (h : TabOk u v L) : L.Pairwise (· < ·) := chain_sorted h.uv h.chain
theorem TabOk.pos (h : TabOk u v L) : 0 < L.length := by
  have hc := h.chain
  cases L with
  | nil => unfold Chain mostN at hc; omega
  | cons x L => simp
theorem TabOk.one (h : TabOk u v L) : L.getD 0 0 = 1 := by
  have := ((chain_at h.uv h.chain).2.2 h.pos).1
  rwa [getD_at] at this
theorem TabOk.bd (h : TabOk u v L) {i : Nat} (hi : i < L.length) : 1 ≤ L.getD i 0 ∧ L.getD i 0 ≤ mostN := by
  have := (chain_at h.uv h.chain).1 i hi
  rwa [getD_at] at this
theorem TabOk.part (h : TabOk u v L) {m : Nat} (h1 : 0 < m) : 0 ≤ partT L m ∧ partT L m < L.length := by
  have h2 : (L.filter fun x => decide (x ≤ m)).length ≤ L.length := List.length_filter_le _ _
  have h3 : 0 < (L.filter fun x => decide (x ≤ m)).length := List.length_pos_of_mem (a := L.getD 0 0) (List.mem_filter.2 ⟨by rw [← getD_at h.pos]; exact List.getElem_mem _, decide_eq_true (by rw [h.one]; omega)⟩)
  unfold partT
  omega
theorem repN_pos {u v low : Nat} (hv : 0 < v) (hl : 1 ≤ low) : 0 < repN u v low ∧ repN u v low ≤ topN := by
  have := repR_ge (u := u) (low := low) hv
  unfold repN topN
  omega
theorem TabOk.rep (h : TabOk u v L) (i : Int) : atL (L.map (repN u v)) i ≤ topN ∧ (0 ≤ i ∧ i < L.length → 0 < atL (L.map (repN u v)) i) := by
  unfold atL
  rw [List.length_map]
  split
  · next hi =>
    have hj : i.toNat < L.length := by omega
    have e : (L.map (repN u v)).getD i.toNat 0 = repN u v (L.getD i.toNat 0) := by
      rw [List.getD_eq_getElem?_getD, List.getElem?_map, List.getElem?_eq_getElem hj, List.getD_eq_getElem?_getD, List.getElem?_eq_getElem hj]
      rfl
    rw [e]
    have := repN_pos (u := u) (v := v) (by have := h.uv; omega) (h.bd hj).1
    exact ⟨this.2, fun _ => this.1⟩
  · next hi => exact ⟨by unfold topN; omega, fun h => absurd h hi⟩
end
/-- What stands for a table's cell. -/
def repT (u v : Nat) (L : List Nat) (i : Int) : Int := (atL (L.map (repN u v)) i : Nat)
theorem prt_tab (a u v : Nat) (L : List Nat) (w : World) (ht : TabOk u v L) (h : Tab w a u v L (L.map (repN u v))) : Prt w false a (partT L) (repT u v L) := by
  refine ⟨fun W hW m h1 h2 => ?_, fun W hW => ?_, fun W hW i h1 h2 => ?_, fun m h1 h2 => ?_, fun m h1 h2 => ?_, fun i => ?_, fun x y hx hxy hy => ?_⟩
  · refine (cindex_any a u v L _ m W (h.below hW) ht.srt ht.pos ht.one (by omega)).mono ?_
    rintro e w' ⟨hI, rfl⟩
    rcases hI with ⟨hno, _⟩ | ⟨_, _, i, rfl, hc⟩
    · unfold mostN at hno; omega
    · rw [partT_cell ht.srt hc]
      exact ⟨rfl, Below.refl _ _⟩
  · refine (cindex_any a u v L _ 0 W (h.below hW) ht.srt ht.pos ht.one (by omega)).mono ?_
    rintro e w' ⟨hI, rfl⟩
    rcases hI with ⟨_, rfl⟩ | ⟨hno, _⟩
    · exact ⟨rfl, Below.refl _ _⟩
    · omega
  · refine (crep_any a u v L _ i W (h.below hW)).mono ?_
    rintro e w' ⟨rfl, rfl⟩
    exact ⟨rfl, Below.refl _ _⟩
  · have := ht.part (m := m) h1
    have := ht.len
    omega
  · have h3 := ht.part (m := m) h1
    have := (ht.rep (partT L m)).2 h3
    unfold repT
    omega
  · have := (ht.rep i).1
    unfold topN at this
    unfold repT
    omega
  · have : (L.filter fun z => decide (z ≤ x)).length ≤ (L.filter fun z => decide (z ≤ y)).length := by
      rw [← List.countP_eq_length_filter, ← List.countP_eq_length_filter]
      exact List.countP_mono_left fun z _ hz => by simp only [decide_eq_true_eq] at hz ⊢; omega
    unfold partT
    omega
/-! ## A partition that lies in memory. -/
/-- A partition, and the blocks that it lies in. -/
def PAt (w : World) : Bool → Nat → (Nat → Int) → (Int → Int) → List Nat → Prop
  | true, a, part, rep, PB => ∃ d, SpanAt w a d ∧ part = partD d ∧ rep = repD d ∧ PB = [a]
  | false, a, part, rep, PB => ∃ u v L, TabOk u v L ∧ part = partT L ∧ rep = repT u v L ∧ ∃ A c A2 c2, At w a #[.int .u64 (u : Nat), .int .u64 (v : Nat), .slice A L.length c, .slice A2 L.length c2] 138 ∧ RdU w A (castL L) ∧ RdU w A2 (castL (L.map (repN u v))) ∧ PB = a :: (blk A ++ blk A2)
theorem Rd.blk_lt {w : World} {A : Option Addr} {xs : List Int} (h : RdU w A xs) (hx : xs ≠ []) : ∀ j ∈ blk A, j < w.heap.size := by
  intro j hj
  obtain ⟨g, o, rfl, hg, _⟩ := h.at 0 (List.length_pos_iff.2 hx)
  simp only [blk, List.mem_singleton] at hj
  subst hj
  exact hg
section
variable {w w' : World} {k : Bool} {a : Nat} {part : Nat → Int} {rep : Int → Int} {PB T : List Nat}
theorem PAt.prt (h : PAt w k a part rep PB) : Prt w k a part rep := by
  cases k
  · obtain ⟨u, v, L, ht, rfl, rfl, A, c, A2, c2, h1, h2, h3, _⟩ := h
    exact prt_tab a u v L w ht ⟨⟨A, c, A2, c2, by rw [List.length_map]; exact h1, h2, h3⟩, ht.len, by rw [List.length_map]; exact ht.len⟩
  · obtain ⟨d, h1, rfl, rfl, _⟩ := h
    exact prt_span a d w h1
theorem PAt.frame (h : PAt w k a part rep PB) (hf : Frame T w w') (hn : Apart PB T) : PAt w' k a part rep PB := by
  cases k
  · obtain ⟨u, v, L, ht, e1, e2, A, c, A2, c2, h1, h2, h3, rfl⟩ := h
    exact ⟨u, v, L, ht, e1, e2, A, c, A2, c2, hf.at h1 (hn a (by simp)), Frame.rd hf h2 (fun x e => hn _ (by subst e; simp [blk])), Frame.rd hf h3 (fun x e => hn _ (by subst e; simp [blk])), rfl⟩
  · obtain ⟨d, h1, e1, e2, rfl⟩ := h
    exact ⟨d, ⟨hf.at h1.at' (hn a (by simp)), h1.d1, h1.d4⟩, e1, e2, rfl⟩
theorem PAt.below (h : PAt w k a part rep PB) (hb : Below w.heap.size w w') : PAt w' k a part rep PB := h.frame (T := []) (Frame.of_below hb) (fun _ _ => by simp)
theorem PAt.lt (h : PAt w k a part rep PB) : ∀ j ∈ PB, j < w.heap.size := by
  cases k
  · obtain ⟨u, v, L, ht, e1, e2, A, c, A2, c2, h1, h2, h3, rfl⟩ := h
    have hp := ht.pos
    intro j hj
    simp only [List.mem_cons, List.mem_append] at hj
    rcases hj with rfl | hj | hj
    · exact h1.lt
    · exact Rd.blk_lt h2 (fun e => by have := congrArg List.length e; rw [castL_length, List.length_nil] at this; omega) j hj
    · exact Rd.blk_lt h3 (fun e => by have := congrArg List.length e; rw [castL_length, List.length_map, List.length_nil] at this; omega) j hj
  · obtain ⟨d, h1, e1, e2, rfl⟩ := h
    intro j hj
    simp at hj
    subst hj
    exact h1.at'.lt
theorem PAt.fun_ (h : PAt w k a part rep PB) {part' : Nat → Int} {rep' : Int → Int} (e1 : part = part') (e2 : rep = rep') : PAt w k a part' rep' PB := by subst e1 e2; exact h
end
/-! ## The document's. -/
theorem partT_take {L : List Nat} {m : Nat} (hs : L.Pairwise (· < ·)) (k : Nat) (hk : k < L.length) : (L.getD k 0 ≤ m → partT (L.take (k + 1)) m = k) ∧ (¬ L.getD k 0 ≤ m → partT (L.take (k + 1)) m = partT (L.take k) m) := by
  unfold partT
  rw [List.take_succ_eq_append_getElem hk, List.filter_append, List.length_append, getD_at]
  constructor
  · intro h
    rw [List.filter_cons_of_pos (p := fun x => decide (x ≤ m)) (decide_eq_true h), List.filter_nil, List.filter_eq_self.2 fun x hx => ?_, List.length_take]
    · simp; omega
    · obtain ⟨j, hj, rfl⟩ := List.getElem_of_mem hx
      rw [List.length_take] at hj
      rw [List.getElem_take, getD_at]
      have := sorted_at hs (i := j) (j := k) (by omega) hk
      exact decide_eq_true (by omega)
  · intro h
    rw [List.filter_cons_of_neg (p := fun x => decide (x ≤ m)) (by simpa using h), List.filter_nil, List.length_nil, Nat.add_zero]
set_option maxHeartbeats 1000000 in
theorem rcellfind_any (A : Option Addr) (c n : Nat) (L : List Nat) (m : Nat) (w : World) (h : RdU w A (castL L)) (hl : L.length = n) (hn : n ≤ 4096) (hs : L.Pairwise (· < ·)) (hm : m < 18446744073709551616) :
    Calls Tryz.prog 43 #[.slice A n c, .int .u64 m] w fun e w' => e = .returned (.int .i64 (partT L m)) ∧ w = w' := by
  have H := Lib.hid h
  have HL := Lib.hid hl
  have HS := Lib.hid hs
  clear h hl hs
  go_enter Tryz.func43, Tryz.ntmps43
  go_wp2
  go_loop [5, 6, 7, 10] (fun at' _ _ i => ∃ k : Nat, ∃ z : Int, k ≤ n ∧ i = .int .i64 k ∧ at' = .int .i64 z ∧ Hid (partT (L.take k) m = z)) (fun _ _ _ i => n - (intOf i).toNat)
  case atStart => exact ⟨0, -1, by omega, rfl, rfl, by show _ = _; simp [partT]⟩
  case round =>
    obtain ⟨k, z, hk, rfl, rfl, HZ⟩ := hrel
    by_cases hlt : k < n
    · obtain ⟨g, o, rfl, hg, hc⟩ := H.out.atN k (by have := HL.out; omega)
      have HST := Lib.hid (partT_take (m := m) HS.out k (by have := HL.out; omega))
      obtain ⟨x, hx⟩ : ∃ x, L.getD k 0 = x := ⟨_, rfl⟩
      rw [hx] at hc HST
      clear hx
      by_cases hxm : x ≤ m
      · have HZ2 : Hid (partT (L.take (k + 1)) m = k) := HST.out.1 hxm
        have hd : decide ((x : Int) ≤ m) = true := decide_eq_true (by omega)
        have hd2 : decide (x ≤ m) = true := decide_eq_true hxm
        clear HST hxm HZ
        go_wp2
        go_round
        case rel => exact ⟨k + 1, k, by omega, by simp, rfl, HZ2⟩
        case measure => simp [intOf]; omega
      · have HZ2 : Hid (partT (L.take (k + 1)) m = z) := (HST.out.2 hxm).trans HZ.out
        have hd : decide ((x : Int) ≤ m) = false := decide_eq_false (by omega)
        have hd2 : decide (x ≤ m) = false := decide_eq_false hxm
        clear HST hxm HZ
        go_wp2
        go_round
        case rel => exact ⟨k + 1, z, by omega, by simp, rfl, HZ2⟩
        case measure => simp [intOf]; omega
    · obtain rfl : k = n := by omega
      have HE : Hid (partT L m = z) := by
        have := HZ.out
        rwa [List.take_of_length_le (by have := HL.out; omega)] at this
      clear HZ
      go_wp2
      go_ret
      exact ⟨by rw [HE.out]; rfl, rfl⟩
theorem partT_ok (w : World) (m u v : Nat) (L : List Nat) (A2 A1 : Option Addr) (c1 c2 : Nat) (side most : Int) (A : Option Addr) (len cap : Nat) (ht : TabOk u v L) (h : BinsAt w m (.slice A1 L.length c1) (.slice A2 L.length c2) 0 side most A len cap) (h1 : RdU w A1 (castL L)) : PartOk w m (partT L) := by
  intro W hW a ha ha'
  have f1 := At.six (At.below h hW)
  have l1 := (At.below h hW).lt
  have HX := Lib.hid (rcellfind_any A1 c1 L.length L a W (h1.below hW) rfl ht.len ht.srt (by omega))
  obtain ⟨n, hn⟩ : ∃ n, L.length = n := ⟨_, rfl⟩
  rw [hn] at f1 HX
  clear h hW ha ha' h1 hn ht
  go_enter Tryz.func19, Tryz.ntmps19
  go_wp2_with fail
  refine HX.out.mono ?_
  rintro e w1 ⟨rfl, rfl⟩
  go_wp2
  go_ret
  exact ⟨rfl, Below.refl _ _⟩
/-- Bins of the document's cells: what they are told by. -/
def BnQ (b : Nat) (v0 v1 v2 v3 v4 v5 : Value) (W : World) : Prop := At W b #[v0, v1, v2, v3, v4, v5] 41
theorem BnQ.at {b : Nat} {v0 v1 v2 v3 v4 v5 : Value} {W : World} (h : BnQ b v0 v1 v2 v3 v4 v5 W) : At W b #[v0, v1, v2, v3, v4, v5] 41 := h
def repTN (u v : Nat) (L : List Nat) (m : Nat) : Nat := atL (L.map (repN u v)) (partT L m)
theorem repT_part (u v : Nat) (L : List Nat) (m : Nat) : repT u v L (partT L m) = (repTN u v L m : Nat) := rfl
theorem rep_wraps {r : Nat} (h : r ≤ 9223372036854775807) : ((r : Int) == 9223372036854775808) = false ∧ wrap64 (r : Int) = r ∧ wrap64 (-(r : Int)) = -(r : Int) ∧ min (r : Int) 9223372036854775807 = r :=
  ⟨beq_eq_false_iff_ne.2 (by omega), by unfold wrap64; omega, by unfold wrap64; omega, by omega⟩
set_option maxHeartbeats 1000000 in
theorem standT_ok (w : World) (m u v : Nat) (L : List Nat) (A2 A1 : Option Addr) (c1 c2 : Nat) (side most : Int) (A : Option Addr) (len cap : Nat) (ht : TabOk u v L) (h : BinsAt w m (.slice A1 L.length c1) (.slice A2 L.length c2) 0 side most A len cap) (h1 : RdU w A1 (castL L)) (h2 : RdU w A2 (castL (L.map (repN u v)))) : StandOk w m (standV (repTN u v L)) := by
  intro W hW x hx1 hx2
  have f1 := At.six (At.below h hW)
  have l1 := (At.below h hW).lt
  have hq := At.below h hW
  by_cases hx0 : x = 0
  · subst hx0
    have HV : Hid (standV (repTN u v L) 0 = 0) := rfl
    rw [HV.out]
    clear h1 h2 h hq
    go_enter Tryz.func60, Tryz.ntmps60
    go_wp2
    go_ret
    exact ⟨rfl, Below.refl _ _⟩
  · have hx0' : (x == 0) = false := beq_eq_false_iff_ne.2 hx0
    have hn0 : 0 < x.natAbs := by omega
    have HS := Lib.hid (rsize_any x W hx1 hx2)
    have HX := Lib.hid fun W' (hW' : Below W.heap.size W W') => (rcellfind_any A1 c1 L.length L x.natAbs W' ((h1.below hW).below hW') rfl ht.len ht.srt (by omega)).mono fun e w' (h : e = .returned (.int .i64 (partT L x.natAbs)) ∧ W' = w') => (⟨h.1, by rw [← h.2]; exact Below.refl _ _⟩ : e = .returned (.int .i64 (partT L x.natAbs)) ∧ Below W'.heap.size W' w')
    obtain ⟨p1, p2⟩ := ht.part (m := x.natAbs) hn0
    have hrr := (ht.rep (partT L x.natAbs))
    obtain ⟨j, hj⟩ := Int.eq_ofNat_of_zero_le p1
    have hjl : j < L.length := by omega
    obtain ⟨g, o, rfl, hg, hc⟩ := (h2.below hW).atN j (by rw [List.length_map]; exact hjl)
    have hr : (L.map (repN u v)).getD j 0 = repTN u v L x.natAbs := by
      unfold repTN atL
      rw [hj, if_pos ⟨by omega, by rw [List.length_map]; omega⟩]
      rfl
    rw [hr] at hc
    have hr1 : repTN u v L x.natAbs ≤ 9223372036854775807 := hrr.1
    have HV : Hid (standV (repTN u v L) x = if 0 < x then (repTN u v L x.natAbs : Int) else -(repTN u v L x.natAbs : Int)) := by
      show _ = _
      unfold standV
      rw [if_neg hx0]
      split <;> omega
    rw [HV.out]
    obtain ⟨r, hre⟩ : ∃ r, repTN u v L x.natAbs = r := ⟨_, rfl⟩
    obtain ⟨mg, hmg⟩ : ∃ l, x.natAbs = l := ⟨_, rfl⟩
    obtain ⟨n, hn⟩ : ∃ n, L.length = n := ⟨_, rfl⟩
    rw [hre] at hc hr1 ⊢
    rw [hmg, hn] at HX
    rw [hmg] at HS hj
    rw [hj] at HX
    rw [hn] at f1 hq hjl
    have j0 : (0 : Int) ≤ j := by omega
    have j1 : (j : Int) < n := by omega
    clear h h1 h2 ht hr hrr p1 p2 hre hmg hn hj HV
    obtain ⟨v1, v2, v3, v4⟩ := rep_wraps hr1
    by_cases hp : 0 < x
    all_goals
      first
        | (have hd1 : decide (0 < x) = true := decide_eq_true hp; rw [if_pos hp])
        | (have hd1 : decide (0 < x) = false := decide_eq_false hp; rw [if_neg hp])
      clear hp hx0 hx1 hx2
      go_enter Tryz.func60, Tryz.ntmps60
      go_wp2_with fail
      refine HS.out.mono ?_
      rintro e w1 ⟨rfl, rfl⟩
      have hcell := fun z : Far W => z.cell hg hc
      go_wp2
      have hfar1 := fun x : Far W => (x.at hq).six
      refine wp_region_far (by kernel_rfl) (by kernel_rfl) ?_
      repeat (first | go_big_quiet_skip | (go_big_quiet_want; go_big_quiet_op; first | go_big_quiet_on | (apply Exists.intro; refine ⟨fun _ => ?_, ?_⟩; (focus (first | (with_reducible refine far_of (HX.out _ (Far.below _))))); go_big_quiet_on)))
      refine wpQuiet_nil ?_
      rintro _ ⟨xq, rfl⟩
      clear hfar1
      have hbf := xq.below
      clear hcell f1 l1 hq HX
      go_wp2
      go_ret
      exact ⟨rfl, hbf⟩
end Go.Proofs.YtondkkhagbcadaaGreat
