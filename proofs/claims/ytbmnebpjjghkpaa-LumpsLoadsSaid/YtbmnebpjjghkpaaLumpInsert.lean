/- Contract of slices.Insert at lumps, of one lump. -/
import Derived.Test.YtbmnebpjjghkpaaProg
import Derived.Test.YtbmnebpjjghkpaaLumpRow
import Derived.Test.YtbmnebpjjghkpaaSlices
import Derived.Test.YtbmnebpjjghkpaaLoops
import Derived.Test.YtbmnebpjjghkpaaUntil
import Derived.Lib.Overlaps
import Derived.Laws.Externs
namespace Go.Proofs.Ytbmnebpjjghkpaa
open Go.RowKit

theorem sp1 {α : Type} (X Y ys P : List α) (h : ys.length = P.length) (a b : Nat) (ha : X.length = a) (hb : a + P.length = b) : splice (splice (X ++ Y ++ ys) b Y) a P = X ++ P ++ Y := by
  subst ha
  subst hb
  have e1 : splice (X ++ Y ++ ys) (X.length + P.length) Y = X ++ ((Y ++ ys).take P.length ++ Y) := by
    unfold splice
    rw [List.append_assoc X Y ys, List.take_append, List.take_of_length_le (by omega), Nat.add_sub_cancel_left, List.drop_of_length_le (by simp only [List.length_append]; omega), List.append_nil, List.append_assoc]
  have e2 : ((Y ++ ys).take P.length).length = P.length := by rw [List.length_take, List.length_append]; omega
  rw [e1]
  unfold splice
  rw [List.take_left, List.drop_append, List.drop_of_length_le (by omega), List.nil_append, Nat.add_sub_cancel_left, List.drop_append, List.drop_of_length_le (by omega), e2, Nat.sub_self, List.drop_zero, List.nil_append, List.append_assoc]
theorem sp2 {α : Type} (X Z P Y : List α) (h : Z.length = P.length + Y.length) (a b : Nat) (ha : X.length = a) (hb : a + P.length = b) : splice (splice (X ++ Z) a P) b Y = X ++ P ++ Y := by
  subst ha
  subst hb
  have e1 : splice (X ++ Z) X.length P = X ++ (P ++ Z.drop P.length) := by
    unfold splice
    rw [List.take_left, List.drop_append, List.drop_of_length_le (by omega), List.nil_append, Nat.add_sub_cancel_left]
  rw [e1]
  unfold splice
  rw [List.take_append, List.take_of_length_le (by omega), Nat.add_sub_cancel_left, List.take_left, List.drop_of_length_le (by simp only [List.length_append, List.length_drop]; omega), List.append_nil, List.append_assoc]

theorem Try.infoPairs : ∃ i, Try.prog.info? 71 = some i ∧ i.zero = some (.agg #[.int .u64 0, .int .i64 0, .int .i64 0]) ∧ i.size = 3 ∧ i.bytes = 24 := by
  have := Try.infoPair
  cases hh : Try.prog.info? 71 with
  | none => rw [hh] at this; cases this
  | some i =>
    rw [hh] at this
    simp only [Option.map_some, Option.some.injEq, Prod.mk.injEq] at this
    exact ⟨i, rfl, this.1, this.2.1, this.2.2⟩
theorem Try.sizePairs : (Try.prog.info? 71).map (·.size) = some 3 := by
  obtain ⟨i, hi, _, h2, _⟩ := Try.infoPairs
  rw [hi]; simp [h2]
theorem flatL_one {ps : List Lu} : ∀ u ∈ flatL ps, u.oneCell' = true := by
  intro u hu
  simp only [flatL, List.mem_flatMap, List.mem_cons, List.not_mem_nil, or_false] at hu
  obtain ⟨x, _, rfl | rfl | rfl⟩ := hu <;> rfl
theorem flatL_take (ps : List Lu) (i : Nat) : (flatL ps).take (i * 3) = flatL (ps.take i) := by
  have h : flatL ps = flatL (ps.take i) ++ flatL (ps.drop i) := by rw [← flatL_append, List.take_append_drop]
  by_cases hi : i ≤ ps.length
  · rw [h, ← show (flatL (ps.take i)).length = i * 3 by rw [flatL_len, List.length_take]; omega]
    exact List.take_left
  · rw [List.take_of_length_le (by rw [flatL_len]; omega), List.take_of_length_le (by omega)]
theorem flatL_drop (ps : List Lu) (i : Nat) : (flatL ps).drop (i * 3) = flatL (ps.drop i) := by
  have h : flatL ps = flatL (ps.take i) ++ flatL (ps.drop i) := by rw [← flatL_append, List.take_append_drop]
  by_cases hi : i ≤ ps.length
  · rw [h, ← show (flatL (ps.take i)).length = i * 3 by rw [flatL_len, List.length_take]; omega]
    exact List.drop_left
  · rw [List.drop_of_length_le (by rw [flatL_len]; omega), List.drop_of_length_le (by omega)]; rfl
theorem flatL_nil : flatL [] = [] := rfl
theorem flatL_cons (x : Lu) (ps : List Lu) : flatL (x :: ps) = [.int .u64 x.1, .int .i64 x.2.1, .int .i64 x.2.2] ++ flatL ps := by simp [flatL]

def blk : Option Addr → List Nat
  | none => []
  | some g => [g.block]
theorem frame_grown {w w' : World} {A : Option Addr} {n c : Nat} (hg : w.grownBy w' (Value.slice A n c).ownBlock) : Frame (blk A) w w' :=
  ⟨hg.os, hg.tape, hg.output, hg.size, fun k hk hn => hg.block k hk (fun e => by
    cases A with
    | none => simp [Value.ownBlock] at e
    | some g => simp only [Value.ownBlock, Option.some.injEq] at e; subst e; exact hn (by simp [blk]))⟩
theorem frame_some {w w' : World} {g : Nat} (hg : w.grownBy w' (some g)) : Frame [g] w w' :=
  ⟨hg.os, hg.tape, hg.output, hg.size, fun k hk hn => hg.block k hk (fun e => by cases e; exact hn (by simp))⟩
theorem _root_.Go.Proofs.Ytbmnebpjjghkpaa.Frame.of_drew {S : List Nat} {w w' : World} (h : Frame S w.drew w') : Frame S w w' := ⟨h.os, h.tape, h.output, h.size, h.block⟩
theorem frame_none {w w' : World} (hg : w.grownBy w' none) : Frame [] w w' := ⟨hg.os, hg.tape, hg.output, hg.size, fun k hk _ => hg.block k hk (fun e => by cases e)⟩

/-- A row's cells, from a place on. -/
theorem Own3.from {base cap n : Nat} {w : World} {g : Nat} {ps : List Lu} (h : w.ownsRow base 71 3 (.slice (some ⟨g, 0, none⟩) n cap) n (flatL ps)) (i : Nat) : ∀ j u, (flatL (ps.drop i))[j]? = some u → w.cell? ((⟨g, i * 3, none⟩ : Addr).add j) = some u := by
  intro j u hj
  rw [← flatL_drop, List.getElem?_drop] at hj
  have := World.ownsRow.cells h (g := g) rfl (i * 3 + j) u hj
  rw [Addr.add_lit, Nat.zero_add] at this
  rw [Addr.add_lit]
  exact this

/-- append of pairs to a row of the call's own. -/
theorem run_app (base : Nat) (A : Option Addr) (cap : Nat) (ps qs : List Lu) (w : World) (hown : Own3 base w A cap ps) (ad : Addr) (c : Nat) (hsrc : ∀ j u, (flatL qs)[j]? = some u → w.cell? (ad.add j) = some u)
    (hlen : ps.length + qs.length ≤ 1099511627776) (hb : base ≤ w.heap.size) :
    ∃ A' cap' w', (Builtin.append_ #[23, 23] 23 #[.slice A ps.length cap, .slice (some ad) qs.length c]).run Try.prog w = .ok (.slice A' (ps.length + qs.length) cap') w' ∧
      Own3 base w' A' cap' (ps ++ qs) ∧ Frame (blk A) w w' ∧ ∀ k ∈ blk A', k ∈ blk A ∨ w.heap.size ≤ k := by
  obtain ⟨i, hi, hz, hsz, hby⟩ := Try.infoPairs
  obtain ⟨v', w', hr, hown', hg, hnil, hblk⟩ := run_append_own_at (P := Try.prog) w base 23 23 _ i _ 3 24 Try.underlyingRow hi hz hsz hby rfl (by decide) _ ps.length (flatL ps) hown ad qs.length c (flatL qs) (flatL_len _) hsrc
    flatL_one (by simp only [maxLen]; omega) (by omega) hb
  rw [← flatL_append] at hown'
  have hl : (ps ++ qs).length = ps.length + qs.length := List.length_append
  rcases hown'.2 with ⟨rfl, hn⟩ | ⟨g, cp, cur, rfl, r⟩
  · refine ⟨none, 0, w', ?_, ?_, frame_grown hg, fun k hk => by simp [blk] at hk⟩
    · rw [hr, hn]
    · unfold Own3; rw [hl, hn]; rw [hn] at hown'; exact hown'
  · refine ⟨some ⟨g, 0, none⟩, cp, w', hr, ?_, frame_grown hg, ?_⟩
    · unfold Own3; rw [hl]; exact hown'
    · intro k hk
      simp only [blk, List.mem_singleton] at hk
      subst hk
      simp only [Value.ownBlock] at hblk
      rcases hblk with hblk | hblk
      · cases A with
        | none => simp at hblk
        | some a => simp only [Option.some.injEq] at hblk; exact .inl (by simp [blk, hblk])
      · simp only [Option.some.injEq] at hblk
        exact .inr (by omega)

theorem insert_list (ps : List Lu) (i : Nat) (p : Lu) : flatL (ps.take i) ++ [.int .u64 p.1, .int .i64 p.2.1, .int .i64 p.2.2] ++ flatL (ps.drop i) = flatL (ps.take i ++ p :: ps.drop i) := by
  rw [flatL_append, flatL_cons, List.append_assoc]

/-- What Insert leaves. -/
def InsR (base : Nat) (A : Option Addr) (ps : List Lu) (i : Nat) (p : Lu) (w : World) (e : Ending) (w' : World) : Prop :=
  ∃ A' c', e = .returned (.slice A' (ps.length + 1) c') ∧ Own3 base w' A' c' (ps.take i ++ p :: ps.drop i) ∧ Frame (blk A) w w' ∧ ∀ k ∈ blk A', k ∈ blk A ∨ w.heap.size ≤ k

set_option maxRecDepth 100000 in
set_option maxHeartbeats 2000000 in
theorem insert_end (base : Nat) (A : Option Addr) (c : Nat) (ps : List Lu) (p : Lu) (vb : Nat) (w : World) (hown : Own3 base w A c ps) (hlen : ps.length ≤ 1048576) (hv : At w vb #[.int .u64 p.1, .int .i64 p.2.1, .int .i64 p.2.2] 71) (hb : base ≤ w.heap.size) :
    Calls Try.prog 44 #[.slice A ps.length c, .int .i64 ps.length, .slice (some ⟨vb, 0, none⟩) 1 1] w fun e w' => InsR base A ps ps.length p w e w' := by
  have hsrc : ∀ j u, (flatL [p])[j]? = some u → w.cell? ((⟨vb, 0, none⟩ : Addr).add j) = some u := by
    intro j u hj
    rw [Addr.add_lit, Nat.zero_add]
    match j, hj with
    | 0, hj => simp [flatL] at hj; subst hj; exact hv.cell rfl
    | 1, hj => simp [flatL] at hj; subst hj; exact hv.cell rfl
    | 2, hj => simp [flatL] at hj; subst hj; exact hv.cell rfl
  obtain ⟨A', c', w', hr, ho, hf, hk⟩ := run_app base A c ps [p] w hown ⟨vb, 0, none⟩ 1 hsrc (by simp; omega) hb
  have HR : Hid (InsR base A ps ps.length p w (.returned (.slice A' (ps.length + 1) c')) w') := ⟨A', c', rfl, by rw [List.take_length, List.drop_length]; exact ho, hf, hk⟩
  have hcap : ps.length ≤ c := by
    rcases hown.2 with ⟨h, h0⟩ | ⟨g, cp, cur, h, _, _, h1, _⟩
    · omega
    · simp only [Value.slice.injEq] at h; omega
  have hnil : A = none → ps.length = 0 ∧ c = 0 := fun hA => by
    rcases hown.2 with ⟨h, h0⟩ | ⟨g, cp, cur, h, _⟩
    · simp only [Value.slice.injEq] at h; exact ⟨h0, h.2.2⟩
    · rw [hA] at h; simp at h
  obtain ⟨n, hn⟩ : ∃ n, ps.length = n := ⟨_, rfl⟩
  rw [hn] at hr HR hcap hlen hnil ⊢
  replace hr := Lib.hid hr
  clear ho hf hk hown hsrc hn
  cases A with
  | none =>
    obtain ⟨rfl, rfl⟩ := hnil rfl
    clear hnil hcap
    go_enter Try.func44, Try.ntmps44
    go_wp2_with (at_builtin; refine Lib.wpList_append_run _ rfl _ _ _ _ rfl _ _ rfl rfl _ _ hr.out ?_)
    go_ret
    exact HR.out
  | some a =>
    clear hnil
    by_cases hc : c = n
    · subst hc
      go_enter Try.func44, Try.ntmps44
      go_wp2_with (at_builtin; refine Lib.wpList_append_run _ rfl _ _ _ _ rfl _ _ rfl rfl _ _ hr.out ?_)
      go_ret
      exact HR.out
    · go_enter Try.func44, Try.ntmps44
      go_wp2_with (at_builtin; refine Lib.wpList_append_run _ rfl _ _ _ _ rfl _ _ rfl rfl _ _ hr.out ?_)
      go_ret
      exact HR.out

/-- A row seen longer. -/
theorem own_longer {base k elem g n cap N : Nat} {xs : List Value} {w : World} (h : w.ownsRow base elem k (.slice (some ⟨g, 0, none⟩) n cap) n xs) (hN : n ≤ N) (hc : N ≤ cap) :
    ∃ ys : List Value, ys.length = (N - n) * k ∧ w.ownsRow base elem k (.slice (some ⟨g, 0, none⟩) N cap) N (xs ++ ys) := by
  rcases h.2 with ⟨h, _⟩ | ⟨g', cap', cur, h, hbg, hg, hnc, hcm, hcs, htake⟩
  · simp at h
  · simp only [Value.slice.injEq, Option.some.injEq, Addr.mk.injEq, and_true, true_and] at h
    obtain ⟨rfl, rfl⟩ := h
    have hNk : N * k ≤ cap * k := Nat.mul_le_mul_right _ hc
    have hnN : n * k ≤ N * k := Nat.mul_le_mul_right _ hN
    have e : xs ++ (cur.toList.drop (n * k)).take ((N - n) * k) = cur.toList.take (N * k) := by
      rw [← htake, Nat.sub_mul, ← List.take_add, Nat.add_sub_cancel' hnN]
    refine ⟨(cur.toList.drop (n * k)).take ((N - n) * k), ?_, ?_⟩
    · rw [List.length_take, List.length_drop, Array.length_toList, Nat.sub_mul]; omega
    · rw [e]
      exact ⟨by rw [List.length_take, Array.length_toList]; omega, .inr ⟨g, cap, cur, rfl, hbg, hg, hc, hcm, hcs, rfl⟩⟩

set_option maxRecDepth 100000 in
set_option maxHeartbeats 4000000 in
theorem insert_room (base g : Nat) (c i : Nat) (ps : List Lu) (p : Lu) (vb : Nat) (w : World) (hown : Own3 base w (some ⟨g, 0, none⟩) c ps) (hi : i < ps.length) (hroom : ps.length + 1 ≤ c) (hlen : ps.length ≤ 1048576)
    (hv : At w vb #[.int .u64 p.1, .int .i64 p.2.1, .int .i64 p.2.2] 71) (hvb : vb ≠ g) :
    Calls Try.prog 44 #[.slice (some ⟨g, 0, none⟩) ps.length c, .int .i64 i, .slice (some ⟨vb, 0, none⟩) 1 1] w fun e w' => InsR base (some ⟨g, 0, none⟩) ps i p w e w' := by
  obtain ⟨n, hn⟩ : ∃ n, ps.length = n := ⟨_, rfl⟩
  rw [hn] at hi hroom hlen ⊢
  have hown0 : w.ownsRow base 71 3 (.slice (some ⟨g, 0, none⟩) n c) n (flatL ps) := by rw [← hn]; exact hown
  obtain ⟨ys, hys, hown1⟩ := own_longer hown0 (show n ≤ n + 1 by omega) hroom
  have hd : (flatL (ps.drop i)).length = (n - i) * 3 := by rw [flatL_len, List.length_drop, hn]
  have ht : (flatL (ps.take i)).length = i * 3 := by rw [flatL_len, List.length_take, hn]; omega
  have hxs : flatL ps = flatL (ps.take i) ++ flatL (ps.drop i) := by rw [← flatL_append, List.take_append_drop]
  -- the first copy
  obtain ⟨w1, hr1, ho1, hg1⟩ := run_copy_in (P := Try.prog) w.drew base 23 23 3 71 3 Try.underlyingRow Try.sizePairs g (n + 1) c _ hown1.drew ((i + 1) * 3) (n - i) (c - (i + 1)) ⟨g, i * 3, none⟩ (n + 1 - i) (c - i) (n - i) (flatL (ps.drop i))
    (by simp only [Nat.min_def]; split <;> omega) hd (Own3.from hown0 i) (by rw [hd]; omega) flatL_one
  have hv1 : At w1 vb #[.int .u64 p.1, .int .i64 p.2.1, .int .i64 p.2.2] 71 := (hg1.block vb hv.lt (fun e => by cases e; exact hvb rfl)).trans hv
  have hsrc : ∀ j u, [Value.int .u64 p.1, .int .i64 p.2.1, .int .i64 p.2.2][j]? = some u → w1.cell? ((⟨vb, 0, none⟩ : Addr).add j) = some u := by
    intro j u hj
    rw [Addr.add_lit, Nat.zero_add]
    match j, hj with
    | 0, hj => simp at hj; subst hj; exact hv1.cell rfl
    | 1, hj => simp at hj; subst hj; exact hv1.cell rfl
    | 2, hj => simp at hj; subst hj; exact hv1.cell rfl
  obtain ⟨w2, hr2, ho2, hg2⟩ := run_copy_in (P := Try.prog) w1 base 23 23 3 71 3 Try.underlyingRow Try.sizePairs g (n + 1) c _ ho1 (i * 3) (n + 1 - i) (c - i) ⟨vb, 0, none⟩ 1 1 1 [.int .u64 p.1, .int .i64 p.2.1, .int .i64 p.2.2]
    (by simp only [Nat.min_def]; split <;> omega) rfl hsrc (by simp; omega) (by intro u hu; simp only [List.mem_cons, List.not_mem_nil, or_false] at hu; rcases hu with rfl | rfl | rfl <;> rfl)
  rw [hxs, sp1 (flatL (ps.take i)) (flatL (ps.drop i)) ys [.int .u64 p.1, .int .i64 p.2.1, .int .i64 p.2.2] (by rw [hys]; simp) (i * 3) ((i + 1) * 3) ht (by simp; omega), insert_list] at ho2
  have hlr : (ps.take i ++ p :: ps.drop i).length = n + 1 := by rw [List.length_append, List.length_cons, List.length_take, List.length_drop, hn]; omega
  have HR : Hid (InsR base (some ⟨g, 0, none⟩) ps i p w (.returned (.slice (some ⟨g, 0, none⟩) (n + 1) c)) w2) := by
    refine ⟨_, _, by rw [hn], ?_, (frame_some hg1).of_drew.trans (frame_some hg2), fun k hk => .inl hk⟩
    unfold Own3
    rw [hlr]
    exact ho2
  have hsh : w.shape? vb = some (71, 3) := by unfold World.shape?; rw [show w.heap[vb]? = _ from hv]; rfl
  obtain ⟨cur, hcg, hcs, _⟩ := own_setRow w hown0
  have hsg : w.shape? g = some (71, c * 3) := by unfold World.shape?; rw [hcg]; simp [hcs]
  have hzE : ∀ w, (Go.sizeOf 71).run Try.prog w = .ok 3 w := fun w => by
    obtain ⟨i0, h0, _, h2, _⟩ := Try.infoPairs
    simp [sizeOf, typeInfo, h0, h2]
  have hov : ∀ lb cb, (callFunc 54 #[.slice (some ⟨vb, 0, none⟩) 1 1, .slice (some ⟨g, (i + 1) * 3, none⟩) lb cb]).run Try.prog w = .ok (.value (.bool false)) w := fun lb cb => by
    rw [run_callFunc_extern Try.func54 (by kernel_rfl) (by kernel_rfl) (by kernel_rfl) (e := Extern.SlicesOverlaps.overlaps #[23, 23] #[4]) (by kernel_rfl),
      Lib.run_overlaps_apart w 23 4 71 Try.underlyingRow 3 hzE ⟨vb, 0, none⟩ ⟨g, (i + 1) * 3, none⟩ 1 1 lb cb hvb _ _ _ _ hsh hsg (by omega) (hv.frozen 0) (hv.frozen 3)]
    rfl
  have hb2 : ¬ (c = i + 1) := by omega
  have hb4 : ¬ (c = i) := by omega
  have w1' : IntKind.i64.wrap ((i : Int) + 1) = ((i + 1 : Nat) : Int) := by rw [IntKind.wrap_i64]; omega
  have w2' : IntKind.i64.wrap ((n : Int) + 1) = ((n + 1 : Nat) : Int) := by rw [IntKind.wrap_i64]; omega
  have n1 : ¬ ((i : Int) = n) := by omega
  have n1' : ((i : Int) == (n : Int)) = false := beq_eq_false_iff_ne.2 n1
  have n2 : ¬ ((c : Int) < n + 1) := by omega
  have n3 : (i : Int) ≤ n := by omega
  have n4 : n + 1 ≤ c := hroom
  have n5 : i + 1 ≤ n + 1 := by omega
  replace hr1 := Lib.hid hr1
  replace hr2 := Lib.hid hr2
  clear hown hown0 hown1 ho1 ho2 hd ht hxs hys hsrc hg1 hg2 hlr hsh hcg hcs hsg hzE hv1 hn
  go_enter Try.func44, Try.ntmps44
  go_wp2_with (simp only [hov])
  refine wp_region_noPanic ?_
  refine wp_region_until (S := fun _ => True) 9 (by kernel_rfl) ?_
  have hHeld : (fun _ : World => True) w.drew := trivial
  have hneF : Nonempty (Held fun _ => True) := ⟨⟨w, trivial⟩⟩
  refine wpAnyU_run0F [true, true, true, true, true, true, true, true] 1 (by kernel_rfl) (by kernel_rfl) (fun _ _ _ _ h => h) (by kernel_rfl) hHeld ?_
  simp only [runOps_true, runOps_false, runOps_nil]
  repeat (first | go_big_quiet_skip | (go_big_quiet_want; go_big_quiet_op; go_big_quiet_on))
  refine wpQuiet_nil ?_
  refine wpAnyU_ready (rs := [8]) (by kernel_rfl) (by simp) ?_
  refine AllReadyU.cons rfl (fun K hK => ?_) (AllReadyU.nil)
  refine ite_of rfl ?_
  refine wp_copy_run _ _ _ _ _ rfl _ _ rfl rfl hr1.out ?_
  refine hK.out _ _ (fun _ => trivial) ?_
  clear hK K
  refine wpAnyU_done (by kernel_rfl) ?_ _
  refine NoPanic.normal ?_
  simp only [Act.put, List.setIfInBounds_toArray, List.set_cons_zero, List.set_cons_succ]
  clear hneF hHeld
  have hr2' := hr2.out
  go_wp2
  go_ret
  exact HR.out

set_option maxRecDepth 100000 in
set_option maxHeartbeats 4000000 in
theorem insert_grow (base g : Nat) (c i : Nat) (ps : List Lu) (p : Lu) (vb : Nat) (w : World) (hown : Own3 base w (some ⟨g, 0, none⟩) c ps) (hi : i < ps.length) (hroom : c < ps.length + 1) (hlen : ps.length ≤ 1048576)
    (hv : At w vb #[.int .u64 p.1, .int .i64 p.2.1, .int .i64 p.2.2] 71) (hb : base ≤ w.heap.size) :
    Calls Try.prog 44 #[.slice (some ⟨g, 0, none⟩) ps.length c, .int .i64 i, .slice (some ⟨vb, 0, none⟩) 1 1] w fun e w' => InsR base (some ⟨g, 0, none⟩) ps i p w e w' := by
  obtain ⟨n, hn⟩ : ∃ n, ps.length = n := ⟨_, rfl⟩
  rw [hn] at hi hroom hlen ⊢
  have hown0 : w.ownsRow base 71 3 (.slice (some ⟨g, 0, none⟩) n c) n (flatL ps) := by rw [← hn]; exact hown
  obtain ⟨cur, hcg, hcs, hnc, _⟩ := own_setRow w hown0
  obtain ⟨M, hM⟩ : ∃ M, n + 1 - i = M := ⟨_, rfl⟩
  have hd : (flatL (ps.drop i)).length = (n - i) * 3 := by rw [flatL_len, List.length_drop, hn]
  have ht : (flatL (ps.take i)).length = i * 3 := by rw [flatL_len, List.length_take, hn]; omega
  obtain ⟨i0, hi0, hz, hsz, hby⟩ := Try.infoPairs
  have hold : (Builtin.firstCells 3 i (.slice (some ⟨g, 0, none⟩) i c)).run Try.prog w.drew = .ok (flatL (ps.take i)).toArray w.drew :=
    run_firstCells_some (P := Try.prog) w.drew 3 i ⟨g, 0, none⟩ i c (flatL (ps.take i)) ht (fun j u hj => by
      have h0 := Own3.from hown0.drew 0 j u
      rw [List.drop_zero, Nat.zero_mul] at h0
      refine h0 ?_
      rw [← flatL_take, List.getElem?_take] at hj
      split at hj
      · exact hj
      · cases hj)
  obtain ⟨cap', w1, hr1, ho1, hg1⟩ := run_append_zeros_grow (P := Try.prog) w base 23 3 23 71 i0 _ 3 24 .i64 .i64 Try.underlyingRow (by kernel_rfl) hi0 hz hsz hby rfl (by decide) (some ⟨g, 0, none⟩) i c M (flatL (ps.take i)) hold ht
    (by omega) (by omega) (by omega) (by simp only [maxLen]; omega) hb (by decide)
  obtain ⟨G, hG⟩ : ∃ G, w.heap.size = G := ⟨_, rfl⟩
  rw [hG] at hr1 ho1
  have hgG : g < G := by rw [← hG]; exact (Array.getElem?_eq_some_iff.1 hcg).1
  have hv1 : At w1 vb #[.int .u64 p.1, .int .i64 p.2.1, .int .i64 p.2.2] 71 := (hg1.block vb hv.lt (fun e => by cases e)).trans hv
  have hvG : vb < G := by rw [← hG]; exact hv.lt
  have hown1 : w1.ownsRow base 71 3 (.slice (some ⟨g, 0, none⟩) n c) n (flatL ps) := hown0.kept hg1 (.inr (by simp [Value.ownBlock]))
  have hcap : i + M ≤ cap' := by
    obtain ⟨_, _, _, h, _⟩ := own_setRow w1 ho1
    exact h
  have hsrc : ∀ j u, [Value.int .u64 p.1, .int .i64 p.2.1, .int .i64 p.2.2][j]? = some u → w1.cell? ((⟨vb, 0, none⟩ : Addr).add j) = some u := by
    intro j u hj
    rw [Addr.add_lit, Nat.zero_add]
    match j, hj with
    | 0, hj => simp at hj; subst hj; exact hv1.cell rfl
    | 1, hj => simp at hj; subst hj; exact hv1.cell rfl
    | 2, hj => simp at hj; subst hj; exact hv1.cell rfl
  obtain ⟨w2, hr2, ho2, hg2⟩ := run_copy_in (P := Try.prog) w1 base 23 23 3 71 3 Try.underlyingRow Try.sizePairs G (i + M) cap' _ ho1 (i * 3) M (cap' - i) ⟨vb, 0, none⟩ 1 1 1 [.int .u64 p.1, .int .i64 p.2.1, .int .i64 p.2.2]
    (by simp only [Nat.min_def]; split <;> omega) rfl hsrc (by simp; omega) (by intro u hu; simp only [List.mem_cons, List.not_mem_nil, or_false] at hu; rcases hu with rfl | rfl | rfl <;> rfl)
  have hown2 : w2.ownsRow base 71 3 (.slice (some ⟨g, 0, none⟩) n c) n (flatL ps) := hown1.kept hg2 (.inr (by simp [Value.ownBlock]; omega))
  obtain ⟨w3, hr3, ho3, hg3⟩ := run_copy_in (P := Try.prog) w2.drew base 23 23 3 71 3 Try.underlyingRow Try.sizePairs G (i + M) cap' _ ho2.drew ((i + 1) * 3) (i + M - (i + 1)) (cap' - (i + 1)) ⟨g, i * 3, none⟩ (n - i) (c - i) (n - i) (flatL (ps.drop i))
    (by simp only [Nat.min_def]; split <;> omega) hd (Own3.from hown2.drew i) (by rw [hd]; omega) flatL_one
  rw [sp2 (flatL (ps.take i)) _ [.int .u64 p.1, .int .i64 p.2.1, .int .i64 p.2.2] (flatL (ps.drop i)) (by rw [Array.length_toList, zeroCells_length, hd]; simp [Value.cells]; omega) (i * 3) ((i + 1) * 3) ht (by simp; omega), insert_list] at ho3
  have hlr : (ps.take i ++ p :: ps.drop i).length = n + 1 := by rw [List.length_append, List.length_cons, List.length_take, List.length_drop, hn]; omega
  have hiM : i + M = n + 1 := by omega
  have HR : Hid (InsR base (some ⟨g, 0, none⟩) ps i p w (.returned (.slice (some ⟨G, 0, none⟩) (i + M) cap')) w3) := by
    refine ⟨some ⟨G, 0, none⟩, cap', by rw [hn, hiM], ?_, ?_, fun k hk => .inr (by simp only [blk, List.mem_singleton] at hk; omega)⟩
    · unfold Own3
      rw [hlr, ← hiM]
      exact ho3
    · have B1 : Below w.heap.size w w1 := (frame_none hg1).below (Below.refl _ _) (Nat.le_refl _) (fun k hk => by simp at hk)
      have B2 : Below w.heap.size w w2 := (frame_some hg2).below B1 B1.size (fun k hk => by simp at hk; omega)
      have B3 : Below w.heap.size w w3 := (frame_some hg3).of_drew.below B2 B2.size (fun k hk => by simp at hk; omega)
      exact Frame.of_below B3
  have hM2 : (n : Int) + 1 - i = (M : Int) := by omega
  have n1 : ¬ ((i : Int) = n) := by omega
  have n1' : ((i : Int) == (n : Int)) = false := beq_eq_false_iff_ne.2 n1
  have n2 : (c : Int) < n + 1 := by omega
  have n3 : (i : Int) ≤ n := by omega
  have n4 : i ≤ n := by omega
  have hb2 : ¬ (cap' = i + 1) := by omega
  have hb4 : ¬ (cap' = i) := by omega
  have hb5 : ¬ (c = i) := by omega
  have w1' : IntKind.i64.wrap ((i : Int) + 1) = ((i + 1 : Nat) : Int) := by rw [IntKind.wrap_i64]; omega
  have m1 : i + 1 ≤ i + M := by omega
  have m2 : (1 : Int) ≤ M := by omega
  have m3 : 1 ≤ M := by omega
  have e1 : i + M - i = M := by omega
  have hic : i ≤ c := by omega
  replace hr1 := Lib.hid hr1
  clear hown hown0 hown1 hown2 ho1 ho2 ho3 hd ht hsrc hg1 hg2 hg3 hlr hcg hcs hv1 hn hold hG hM hiM hi0 hz hsz hby
  go_enter Try.func44, Try.ntmps44
  go_wp2_with (at_builtin; refine Lib.wpList_append_run _ rfl _ _ _ _ rfl _ _ rfl rfl _ _ hr1.out ?_)
  clear hr1 hr2
  replace hr3 := Lib.hid hr3
  refine wp_region_noPanic ?_
  refine wp_region_until (S := fun _ => True) 9 (by kernel_rfl) ?_
  have hHeld : (fun _ : World => True) w2.drew := trivial
  have hneF : Nonempty (Held fun _ => True) := ⟨⟨w2, trivial⟩⟩
  refine wpAnyU_run0F [true, true, true, true, true, true, true, true] 1 (by kernel_rfl) (by kernel_rfl) (fun _ _ _ _ h => h) (by kernel_rfl) hHeld ?_
  simp only [runOps_true, runOps_false, runOps_nil]
  repeat (first | go_big_quiet_skip | (go_big_quiet_want; go_big_quiet_op; go_big_quiet_on))
  refine wpQuiet_nil ?_
  refine wpAnyU_ready (rs := [8]) (by kernel_rfl) (by simp) ?_
  refine AllReadyU.cons rfl (fun K hK => ?_) (AllReadyU.nil)
  refine ite_of rfl ?_
  refine wp_copy_run _ _ _ _ _ rfl _ _ rfl rfl hr3.out ?_
  refine hK.out _ _ (fun _ => trivial) ?_
  clear hK K
  refine wpAnyU_done (by kernel_rfl) ?_ _
  refine NoPanic.normal ?_
  simp only [Act.put, List.setIfInBounds_toArray, List.set_cons_zero, List.set_cons_succ]
  clear hneF hHeld
  go_wp2
  go_ret
  exact HR.out

/-- slices.Insert of one lump. -/
theorem insert_any (base : Nat) (A : Option Addr) (c i : Nat) (ps : List Lu) (p : Lu) (vb : Nat) (w : World) (hown : Own3 base w A c ps) (hi : i ≤ ps.length) (hlen : ps.length ≤ 1048576)
    (hv : At w vb #[.int .u64 p.1, .int .i64 p.2.1, .int .i64 p.2.2] 71) (hvb : ∀ k ∈ blk A, k ≠ vb) (hb : base ≤ w.heap.size) :
    Calls Try.prog 44 #[.slice A ps.length c, .int .i64 i, .slice (some ⟨vb, 0, none⟩) 1 1] w fun e w' => InsR base A ps i p w e w' := by
  by_cases h : i = ps.length
  · subst h
    exact insert_end base A c ps p vb w hown hlen hv hb
  · have hlt : i < ps.length := by omega
    obtain ⟨g, rfl⟩ : ∃ g, A = some ⟨g, 0, none⟩ := by
      rcases hown.2 with ⟨_, h0⟩ | ⟨g, cp, cur, h, _⟩
      · omega
      · simp only [Value.slice.injEq] at h; exact ⟨g, h.1⟩
    by_cases hr : ps.length + 1 ≤ c
    · exact insert_room base g c i ps p vb w hown hlt hr hlen hv (fun e => hvb g (by simp [blk]) e.symm)
    · exact insert_grow base g c i ps p vb w hown hlt (by omega) hlen hv hb
end Go.Proofs.Ytbmnebpjjghkpaa

