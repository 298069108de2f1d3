/- Texts of this claim, joined, indents halved: RunsAll, Plus. -/
import Derived.Test.YtlbnlmhcpephbaaGreatDoorProg
import Derived.Lib.Overlaps
import Derived.Laws.Externs
import Derived.Lib.SliceRun
import Derived.Test.YtlbnlmhcpephbaaGreatDoorKc3
namespace Go.Proofs.YtlbnlmhcpephbaaGreatDoor
open Go.RowKit
theorem sp1 {α : Type} (X Y ys P : List α) (h : ys.length = P.length) (a b : Nat) (ha : X.length = a) (hb : a + P.length = b) : splice (splice (X ++ Y ++ ys) b Y) a P = X ++ P ++ Y := by
 subst ha
 subst hb
 have e1 : splice (X ++ Y ++ ys) (X.length + P.length) Y = X ++ ((Y ++ ys).take P.length ++ Y) := by
  unfold splice
  rw [List.append_assoc X Y ys, List.take_append, List.take_of_length_le (by omega), Nat.add_sub_cancel_left, List.drop_of_length_le (by simp only [List.length_append]; omega), List.append_nil, List.append_assoc]
 have e2 : ((Y ++ ys).take P.length).length = P.length := by rw [List.length_take, List.length_append]; omega
 rw [e1]
 unfold splice
 rw [List.take_left, List.drop_append, List.drop_of_length_le (by omega), List.nil_append, Nat.add_sub_cancel_left, List.drop_append, List.drop_of_length_le (by omega), e2, Nat.sub_self, List.drop_zero, List.nil_append, List.append_assoc]
theorem sp2 {α : Type} (X Z P Y : List α) (h : Z.length = P.length + Y.length) (a b : Nat) (ha : X.length = a) (hb : a + P.length = b) : splice (splice (X ++ Z) a P) b Y = X ++ P ++ Y := by
 subst ha
 subst hb
 have e1 : splice (X ++ Z) X.length P = X ++ (P ++ Z.drop P.length) := by
  unfold splice
  rw [List.take_left, List.drop_append, List.drop_of_length_le (by omega), List.nil_append, Nat.add_sub_cancel_left]
 rw [e1]
 unfold splice
 rw [List.take_append, List.take_of_length_le (by omega), Nat.add_sub_cancel_left, List.take_left, List.drop_of_length_le (by simp only [List.length_append, List.length_drop]; omega), List.append_nil, List.append_assoc]
theorem Tryz.infoPairs : ∃ i, Tryz.prog.info? 247 = some i ∧ i.zero = some (.agg #[.int .i64 0, .int .u64 0]) ∧ i.size = 2 ∧ i.bytes = 16 := by
  have := Tryz.infoPair
  cases hh : Tryz.prog.info? 247 with
  | none => rw [hh] at this; cases this
  | some i =>
    rw [hh] at this
    simp only [Option.map_some, Option.some.injEq, Prod.mk.injEq] at this
    exact ⟨i, rfl, this.1, this.2.1, this.2.2⟩
theorem Tryz.sizePairs : (Tryz.prog.info? 247).map (·.size) = some 2 := by
 obtain ⟨i, hi, _, h2, _⟩ := Tryz.infoPairs
 rw [hi]; simp [h2]
theorem flatP_one {ps : List (Int × Int)} : ∀ u ∈ flatP ps, u.oneCell' = true := by
 intro u hu
 simp only [flatP, List.mem_flatMap, List.mem_cons, List.not_mem_nil, or_false] at hu
 obtain ⟨x, _, rfl | rfl⟩ := hu <;> rfl
theorem flatP_append (ps qs : List (Int × Int)) : flatP (ps ++ qs) = flatP ps ++ flatP qs := by simp [flatP]
theorem flatP_take (ps : List (Int × Int)) (i : Nat) : (flatP ps).take (i * 2) = flatP (ps.take i) := by
 have h : flatP ps = flatP (ps.take i) ++ flatP (ps.drop i) := by rw [← flatP_append, List.take_append_drop]
 by_cases hi : i ≤ ps.length
 ·rw [h, ← show (flatP (ps.take i)).length = i * 2 by rw [flatP_len, List.length_take]; omega]
  exact List.take_left
 ·rw [List.take_of_length_le (by rw [flatP_len]; omega), List.take_of_length_le (by omega)]
theorem flatP_drop (ps : List (Int × Int)) (i : Nat) : (flatP ps).drop (i * 2) = flatP (ps.drop i) := by
 have h : flatP ps = flatP (ps.take i) ++ flatP (ps.drop i) := by rw [← flatP_append, List.take_append_drop]
 by_cases hi : i ≤ ps.length
 ·rw [h, ← show (flatP (ps.take i)).length = i * 2 by rw [flatP_len, List.length_take]; omega]
  exact List.drop_left
 ·rw [List.drop_of_length_le (by rw [flatP_len]; omega), List.drop_of_length_le (by omega)]; rfl
theorem flatP_cons (x : Int × Int) (ps : List (Int × Int)) : flatP (x :: ps) = [.int .i64 x.1, .int .u64 x.2] ++ flatP ps := by simp [flatP]
def blk : Option Addr → List Nat
 | none => []
 | some g => [g.block]
theorem frame_grown {w w' : World} {A : Option Addr} {n c : Nat} (hg : w.grownBy w' (Value.slice A n c).ownBlock) : Frame (blk A) w w' :=
 ⟨hg.os, hg.tape, hg.output, hg.size, fun k hk hn => hg.block k hk (fun e => by
  cases A with
  | none => simp [Value.ownBlock] at e
  | some g => simp only [Value.ownBlock, Option.some.injEq] at e; subst e; exact hn (by simp [blk]))⟩
theorem frame_some {w w' : World} {g : Nat} (hg : w.grownBy w' (some g)) : Frame [g] w w' :=
 ⟨hg.os, hg.tape, hg.output, hg.size, fun k hk hn => hg.block k hk (fun e => by cases e; exact hn (by simp))⟩
theorem _root_.Go.Proofs.YtlbnlmhcpephbaaGreatDoor.Frame.of_drew {S : List Nat} {w w' : World} (h : Frame S w.drew w') : Frame S w w' := ⟨h.os, h.tape, h.output, h.size, h.block⟩
theorem frame_none {w w' : World} (hg : w.grownBy w' none) : Frame [] w w' := ⟨hg.os, hg.tape, hg.output, hg.size, fun k hk _ => hg.block k hk (fun e => by cases e)⟩
theorem Own2.from {base cap n : Nat} {w : World} {g : Nat} {ps : List (Int × Int)} (h : w.ownsRow base 247 2 (.slice (some ⟨g, 0, none⟩) n cap) n (flatP ps)) (i : Nat) : ∀ j u, (flatP (ps.drop i))[j]? = some u → w.cell? ((⟨g, i * 2, none⟩ : Addr).add j) = some u := by
 intro j u hj
 rw [← flatP_drop, List.getElem?_drop] at hj
 have := World.ownsRow.cells h (g := g) rfl (i * 2 + j) u hj
 rw [Addr.add_lit, Nat.zero_add] at this
 rw [Addr.add_lit]
 exact this
theorem run_app (base : Nat) (A : Option Addr) (cap : Nat) (ps qs : List (Int × Int)) (w : World) (hown : Own2 base w A cap ps) (ad : Addr) (c : Nat) (hsrc : ∀ j u, (flatP qs)[j]? = some u → w.cell? (ad.add j) = some u)
  (hlen : ps.length + qs.length ≤ 1099511627776) (hb : base ≤ w.heap.size) :
  ∃ A' cap' w', (Builtin.append_ #[212, 212] 212 #[.slice A ps.length cap, .slice (some ad) qs.length c]).run Tryz.prog w = .ok (.slice A' (ps.length + qs.length) cap') w' ∧
   Own2 base w' A' cap' (ps ++ qs) ∧ Frame (blk A) w w' ∧ ∀ k ∈ blk A', k ∈ blk A ∨ w.heap.size ≤ k := by
 obtain ⟨i, hi, hz, hsz, hby⟩ := Tryz.infoPairs
 obtain ⟨v', w', hr, hown', hg, hnil, hblk⟩ := run_append_own_at (P := Tryz.prog) w base 212 212 _ i _ 2 16 Tryz.underlyingRow hi hz hsz hby rfl (by decide) _ ps.length (flatP ps) hown ad qs.length c (flatP qs) (flatP_len _) hsrc
  flatP_one (by simp only [maxLen]; omega) (by omega) hb
 rw [← flatP_append] at hown'
 have hl : (ps ++ qs).length = ps.length + qs.length := List.length_append
 rcases hown'.2 with ⟨rfl, hn⟩ | ⟨g, cp, cur, rfl, r⟩
 ·refine ⟨none, 0, w', ?_, ?_, frame_grown hg, fun k hk => by simp [blk] at hk⟩
  ·rw [hr, hn]
  ·unfold Own2; rw [hl, hn]; rw [hn] at hown'; exact hown'
 ·refine ⟨some ⟨g, 0, none⟩, cp, w', hr, ?_, frame_grown hg, ?_⟩
  ·unfold Own2; rw [hl]; exact hown'
  ·intro k hk
   simp only [blk, List.mem_singleton] at hk
   subst hk
   simp only [Value.ownBlock] at hblk
   rcases hblk with hblk | hblk
   ·cases A with
    | none => simp at hblk
    | some a => simp only [Option.some.injEq] at hblk; exact .inl (by simp [blk, hblk])
   ·simp only [Option.some.injEq] at hblk
    exact .inr (by omega)
theorem insert_list (ps : List (Int × Int)) (i : Nat) (p : Int × Int) : flatP (ps.take i) ++ [.int .i64 p.1, .int .u64 p.2] ++ flatP (ps.drop i) = flatP (ps.take i ++ p :: ps.drop i) := by
 rw [flatP_append, flatP_cons, List.append_assoc]
def InsR (base : Nat) (A : Option Addr) (ps : List (Int × Int)) (i : Nat) (p : Int × Int) (w : World) (e : Ending) (w' : World) : Prop :=
 ∃ A' c', e = .returned (.slice A' (ps.length + 1) c') ∧ Own2 base w' A' c' (ps.take i ++ p :: ps.drop i) ∧ Frame (blk A) w w' ∧ ∀ k ∈ blk A', k ∈ blk A ∨ w.heap.size ≤ k
set_option maxRecDepth 100000 in
set_option maxHeartbeats 2000000 in
theorem insert_end (base : Nat) (A : Option Addr) (c : Nat) (ps : List (Int × Int)) (p : Int × Int) (vb : Nat) (w : World) (hown : Own2 base w A c ps) (hlen : ps.length ≤ 1048576) (hv : At w vb #[.int .i64 p.1, .int .u64 p.2] 247) (hb : base ≤ w.heap.size) :
    Calls Tryz.prog 139 #[.slice A ps.length c, .int .i64 ps.length, .slice (some ⟨vb, 0, none⟩) 1 1] w fun e w' => InsR base A ps ps.length p w e w' := by
  have hsrc : ∀ j u, (flatP [p])[j]? = some u → w.cell? ((⟨vb, 0, none⟩ : Addr).add j) = some u := by
    intro j u hj
    rw [Addr.add_lit, Nat.zero_add]
    match j, hj with
    | 0, hj => simp [flatP] at hj; subst hj; exact hv.cell rfl
    | 1, hj => simp [flatP] at hj; subst hj; exact hv.cell rfl
  obtain ⟨A', c', w', hr, ho, hf, hk⟩ := run_app base A c ps [p] w hown ⟨vb, 0, none⟩ 1 hsrc (by simp; omega) hb
  have HR : Hid (InsR base A ps ps.length p w (.returned (.slice A' (ps.length + 1) c')) w') := ⟨A', c', rfl, by rw [List.take_length, List.drop_length]; exact ho, hf, hk⟩
  have hcap : ps.length ≤ c := by
    rcases hown.2 with ⟨h, h0⟩ | ⟨g, cp, cur, h, _, _, h1, _⟩
    · omega
    · simp only [Value.slice.injEq] at h; omega
  have hnil : A = none → ps.length = 0 ∧ c = 0 := fun hA => by
    rcases hown.2 with ⟨h, h0⟩ | ⟨g, cp, cur, h, _⟩
    · simp only [Value.slice.injEq] at h; exact ⟨h0, h.2.2⟩
    · rw [hA] at h; simp at h
  obtain ⟨n, hn⟩ : ∃ n, ps.length = n := ⟨_, rfl⟩
  rw [hn] at hr HR hcap hlen hnil ⊢
  replace hr := Lib.hid hr
  clear ho hf hk hown hsrc hn
  cases A with
  | none =>
    obtain ⟨rfl, rfl⟩ := hnil rfl
    clear hnil hcap
    go_enter Tryz.func139, Tryz.ntmps139
    go_wp2_with (at_builtin; refine Lib.wpList_append_run _ rfl _ _ _ _ rfl _ _ rfl rfl _ _ hr.out ?_)
    go_ret
    exact HR.out
  | some a =>
    clear hnil
    by_cases hc : c = n
    · subst hc
      go_enter Tryz.func139, Tryz.ntmps139
      go_wp2_with (at_builtin; refine Lib.wpList_append_run _ rfl _ _ _ _ rfl _ _ rfl rfl _ _ hr.out ?_)
      go_ret
      exact HR.out
    · go_enter Tryz.func139, Tryz.ntmps139
      go_wp2_with (at_builtin; refine Lib.wpList_append_run _ rfl _ _ _ _ rfl _ _ rfl rfl _ _ hr.out ?_)
      go_ret
      exact HR.out
theorem own_longer {base k elem g n cap N : Nat} {xs : List Value} {w : World} (h : w.ownsRow base elem k (.slice (some ⟨g, 0, none⟩) n cap) n xs) (hN : n ≤ N) (hc : N ≤ cap) :
  ∃ ys : List Value, ys.length = (N - n) * k ∧ w.ownsRow base elem k (.slice (some ⟨g, 0, none⟩) N cap) N (xs ++ ys) := by
 rcases h.2 with ⟨h, _⟩ | ⟨g', cap', cur, h, hbg, hg, hnc, hcm, hcs, htake⟩
 ·simp at h
 ·simp only [Value.slice.injEq, Option.some.injEq, Addr.mk.injEq, and_true, true_and] at h
  obtain ⟨rfl, rfl⟩ := h
  have hNk : N * k ≤ cap * k := Nat.mul_le_mul_right _ hc
  have hnN : n * k ≤ N * k := Nat.mul_le_mul_right _ hN
  have e : xs ++ (cur.toList.drop (n * k)).take ((N - n) * k) = cur.toList.take (N * k) := by
   rw [← htake, Nat.sub_mul, ← List.take_add, Nat.add_sub_cancel' hnN]
  refine ⟨(cur.toList.drop (n * k)).take ((N - n) * k), ?_, ?_⟩
  ·rw [List.length_take, List.length_drop, Array.length_toList, Nat.sub_mul]; omega
  ·rw [e]
   exact ⟨by rw [List.length_take, Array.length_toList]; omega, .inr ⟨g, cap, cur, rfl, hbg, hg, hc, hcm, hcs, rfl⟩⟩
set_option maxRecDepth 100000 in
set_option maxHeartbeats 4000000 in
theorem insert_room (base g : Nat) (c i : Nat) (ps : List (Int × Int)) (p : Int × Int) (vb : Nat) (w : World) (hown : Own2 base w (some ⟨g, 0, none⟩) c ps) (hi : i < ps.length) (hroom : ps.length + 1 ≤ c) (hlen : ps.length ≤ 1048576)
  (hv : At w vb #[.int .i64 p.1, .int .u64 p.2] 247) (hvb : vb ≠ g) :
  Calls Tryz.prog 139 #[.slice (some ⟨g, 0, none⟩) ps.length c, .int .i64 i, .slice (some ⟨vb, 0, none⟩) 1 1] w fun e w' => InsR base (some ⟨g, 0, none⟩) ps i p w e w' := by
 obtain ⟨n, hn⟩ : ∃ n, ps.length = n := ⟨_, rfl⟩
 rw [hn] at hi hroom hlen ⊢
 have hown0 : w.ownsRow base 247 2 (.slice (some ⟨g, 0, none⟩) n c) n (flatP ps) := by rw [← hn]; exact hown
 obtain ⟨ys, hys, hown1⟩ := own_longer hown0 (show n ≤ n + 1 by omega) hroom
 have hd : (flatP (ps.drop i)).length = (n - i) * 2 := by rw [flatP_len, List.length_drop, hn]
 have ht : (flatP (ps.take i)).length = i * 2 := by rw [flatP_len, List.length_take, hn]; omega
 have hxs : flatP ps = flatP (ps.take i) ++ flatP (ps.drop i) := by rw [← flatP_append, List.take_append_drop]
 obtain ⟨w1, hr1, ho1, hg1⟩ := run_copy_in (P := Tryz.prog) w.drew base 212 212 3 247 2 Tryz.underlyingRow Tryz.sizePairs g (n + 1) c _ hown1.drew ((i + 1) * 2) (n - i) (c - (i + 1)) ⟨g, i * 2, none⟩ (n + 1 - i) (c - i) (n - i) (flatP (ps.drop i))
  (by simp only [Nat.min_def]; split <;> omega) hd (Own2.from hown0 i) (by rw [hd]; omega) flatP_one
 have hv1 : At w1 vb #[.int .i64 p.1, .int .u64 p.2] 247 := (hg1.block vb hv.lt (fun e => by cases e; exact hvb rfl)).trans hv
 have hsrc : ∀ j u, [Value.int .i64 p.1, .int .u64 p.2][j]? = some u → w1.cell? ((⟨vb, 0, none⟩ : Addr).add j) = some u := by
  intro j u hj
  rw [Addr.add_lit, Nat.zero_add]
  match j, hj with
  | 0, hj => simp at hj; subst hj; exact hv1.cell rfl
  | 1, hj => simp at hj; subst hj; exact hv1.cell rfl
 obtain ⟨w2, hr2, ho2, hg2⟩ := run_copy_in (P := Tryz.prog) w1 base 212 212 3 247 2 Tryz.underlyingRow Tryz.sizePairs g (n + 1) c _ ho1 (i * 2) (n + 1 - i) (c - i) ⟨vb, 0, none⟩ 1 1 1 [.int .i64 p.1, .int .u64 p.2]
  (by simp only [Nat.min_def]; split <;> omega) rfl hsrc (by simp; omega) (by intro u hu; simp only [List.mem_cons, List.not_mem_nil, or_false] at hu; rcases hu with rfl | rfl <;> rfl)
 rw [hxs, sp1 (flatP (ps.take i)) (flatP (ps.drop i)) ys [.int .i64 p.1, .int .u64 p.2] (by rw [hys]; simp) (i * 2) ((i + 1) * 2) ht (by simp; omega), insert_list] at ho2
 have hlr : (ps.take i ++ p :: ps.drop i).length = n + 1 := by rw [List.length_append, List.length_cons, List.length_take, List.length_drop, hn]; omega
 have HR : Hid (InsR base (some ⟨g, 0, none⟩) ps i p w (.returned (.slice (some ⟨g, 0, none⟩) (n + 1) c)) w2) := by
  refine ⟨_, _, by rw [hn], ?_, (frame_some hg1).of_drew.trans (frame_some hg2), fun k hk => .inl hk⟩
  unfold Own2
  rw [hlr]
  exact ho2
 have hsh : w.shape? vb = some (247, 2) := by unfold World.shape?; rw [show w.heap[vb]? = _ from hv]; rfl
 obtain ⟨cur, hcg, hcs, _⟩ := own_setRow w hown0
 have hsg : w.shape? g = some (247, c * 2) := by unfold World.shape?; rw [hcg]; simp [hcs]
 have hzE : ∀ w, (Go.sizeOf 247).run Tryz.prog w = .ok 2 w := fun w => by
  obtain ⟨i0, h0, _, h2, _⟩ := Tryz.infoPairs
  simp [sizeOf, typeInfo, h0, h2]
 have hov : ∀ lb cb, (callFunc 144 #[.slice (some ⟨vb, 0, none⟩) 1 1, .slice (some ⟨g, (i + 1) * 2, none⟩) lb cb]).run Tryz.prog w = .ok (.value (.bool false)) w := fun lb cb => by
  rw [run_callFunc_extern Tryz.func144 (by kernel_rfl) (by kernel_rfl) (by kernel_rfl) (e := Extern.SlicesOverlaps.overlaps #[212, 212] #[4]) (by kernel_rfl),
   Lib.run_overlaps_apart w 212 4 247 Tryz.underlyingRow 2 hzE ⟨vb, 0, none⟩ ⟨g, (i + 1) * 2, none⟩ 1 1 lb cb hvb _ _ _ _ hsh hsg (by omega) (hv.frozen 0) (hv.frozen 2)]
  rfl
 have hb2 : ¬ (c = i + 1) := by omega
 have hb4 : ¬ (c = i) := by omega
 have w1' : IntKind.i64.wrap ((i : Int) + 1) = ((i + 1 : Nat) : Int) := by rw [IntKind.wrap_i64]; omega
 have w2' : IntKind.i64.wrap ((n : Int) + 1) = ((n + 1 : Nat) : Int) := by rw [IntKind.wrap_i64]; omega
 have n1 : ¬ ((i : Int) = n) := by omega
 have n1' : ((i : Int) == (n : Int)) = false := beq_eq_false_iff_ne.2 n1
 have n2 : ¬ ((c : Int) < n + 1) := by omega
 have n3 : (i : Int) ≤ n := by omega
 have n4 : n + 1 ≤ c := hroom
 have n5 : i + 1 ≤ n + 1 := by omega
 replace hr1 := Lib.hid hr1
 replace hr2 := Lib.hid hr2
 clear hown hown0 hown1 ho1 ho2 hd ht hxs hys hsrc hg1 hg2 hlr hsh hcg hcs hsg hzE hv1 hn
 go_enter Tryz.func139, Tryz.ntmps139
 go_wp2_with (simp only [hov])
 refine wp_region_noPanic ?_
 refine wp_region_until (S := fun _ => True) 9 (by kernel_rfl) ?_
 have hHeld : (fun _ : World => True) w.drew := trivial
 have hneF : Nonempty (Held fun _ => True) := ⟨⟨w, trivial⟩⟩
 refine wpAnyU_run0F [true, true, true, true, true, true, true, true] 1 (by kernel_rfl) (by kernel_rfl) (fun _ _ _ _ h => h) (by kernel_rfl) hHeld ?_
 simp only [runOps_true, runOps_false, runOps_nil]
 repeat (first | go_big_quiet_skip | (go_big_quiet_want; go_big_quiet_op; go_big_quiet_on))
 refine wpQuiet_nil ?_
 refine wpAnyU_ready (rs := [8]) (by kernel_rfl) (by simp) ?_
 refine AllReadyU.cons rfl (fun K hK => ?_) (AllReadyU.nil)
 refine ite_of rfl ?_
 refine wp_copy_run _ _ _ _ _ rfl _ _ rfl rfl hr1.out ?_
 refine hK.out _ _ (fun _ => trivial) ?_
 clear hK K
 refine wpAnyU_done (by kernel_rfl) ?_ _
 refine NoPanic.normal ?_
 simp only [Act.put, List.setIfInBounds_toArray, List.set_cons_zero, List.set_cons_succ]
 clear hneF hHeld
 have hr2' := hr2.out
 go_wp2
 go_ret
 exact HR.out
set_option maxRecDepth 100000 in
set_option maxHeartbeats 4000000 in
theorem insert_grow (base g : Nat) (c i : Nat) (ps : List (Int × Int)) (p : Int × Int) (vb : Nat) (w : World) (hown : Own2 base w (some ⟨g, 0, none⟩) c ps) (hi : i < ps.length) (hroom : c < ps.length + 1) (hlen : ps.length ≤ 1048576)
  (hv : At w vb #[.int .i64 p.1, .int .u64 p.2] 247) (hb : base ≤ w.heap.size) :
  Calls Tryz.prog 139 #[.slice (some ⟨g, 0, none⟩) ps.length c, .int .i64 i, .slice (some ⟨vb, 0, none⟩) 1 1] w fun e w' => InsR base (some ⟨g, 0, none⟩) ps i p w e w' := by
 obtain ⟨n, hn⟩ : ∃ n, ps.length = n := ⟨_, rfl⟩
 rw [hn] at hi hroom hlen ⊢
 have hown0 : w.ownsRow base 247 2 (.slice (some ⟨g, 0, none⟩) n c) n (flatP ps) := by rw [← hn]; exact hown
 obtain ⟨cur, hcg, hcs, hnc, _⟩ := own_setRow w hown0
 obtain ⟨M, hM⟩ : ∃ M, n + 1 - i = M := ⟨_, rfl⟩
 have hd : (flatP (ps.drop i)).length = (n - i) * 2 := by rw [flatP_len, List.length_drop, hn]
 have ht : (flatP (ps.take i)).length = i * 2 := by rw [flatP_len, List.length_take, hn]; omega
 obtain ⟨i0, hi0, hz, hsz, hby⟩ := Tryz.infoPairs
 have hold : (Builtin.firstCells 2 i (.slice (some ⟨g, 0, none⟩) i c)).run Tryz.prog w.drew = .ok (flatP (ps.take i)).toArray w.drew :=
  run_firstCells_some (P := Tryz.prog) w.drew 2 i ⟨g, 0, none⟩ i c (flatP (ps.take i)) ht (fun j u hj => by
   have h0 := Own2.from hown0.drew 0 j u
   rw [List.drop_zero, Nat.zero_mul] at h0
   refine h0 ?_
   rw [← flatP_take, List.getElem?_take] at hj
   split at hj
   ·exact hj
   ·cases hj)
 obtain ⟨cap', w1, hr1, ho1, hg1⟩ := run_append_zeros_grow (P := Tryz.prog) w base 212 3 212 247 i0 _ 2 16 .i64 .i64 Tryz.underlyingRow (by kernel_rfl) hi0 hz hsz hby rfl (by decide) (some ⟨g, 0, none⟩) i c M (flatP (ps.take i)) hold ht
  (by omega) (by omega) (by omega) (by simp only [maxLen]; omega) hb (by decide)
 obtain ⟨G, hG⟩ : ∃ G, w.heap.size = G := ⟨_, rfl⟩
 rw [hG] at hr1 ho1
 have hgG : g < G := by rw [← hG]; exact (Array.getElem?_eq_some_iff.1 hcg).1
 have hv1 : At w1 vb #[.int .i64 p.1, .int .u64 p.2] 247 := (hg1.block vb hv.lt (fun e => by cases e)).trans hv
 have hvG : vb < G := by rw [← hG]; exact hv.lt
 have hown1 : w1.ownsRow base 247 2 (.slice (some ⟨g, 0, none⟩) n c) n (flatP ps) := hown0.kept hg1 (.inr (by simp [Value.ownBlock]))
 have hcap : i + M ≤ cap' := by
  obtain ⟨_, _, _, h, _⟩ := own_setRow w1 ho1
  exact h
 have hsrc : ∀ j u, [Value.int .i64 p.1, .int .u64 p.2][j]? = some u → w1.cell? ((⟨vb, 0, none⟩ : Addr).add j) = some u := by
  intro j u hj
  rw [Addr.add_lit, Nat.zero_add]
  match j, hj with
  | 0, hj => simp at hj; subst hj; exact hv1.cell rfl
  | 1, hj => simp at hj; subst hj; exact hv1.cell rfl
 obtain ⟨w2, hr2, ho2, hg2⟩ := run_copy_in (P := Tryz.prog) w1 base 212 212 3 247 2 Tryz.underlyingRow Tryz.sizePairs G (i + M) cap' _ ho1 (i * 2) M (cap' - i) ⟨vb, 0, none⟩ 1 1 1 [.int .i64 p.1, .int .u64 p.2]
  (by simp only [Nat.min_def]; split <;> omega) rfl hsrc (by simp; omega) (by intro u hu; simp only [List.mem_cons, List.not_mem_nil, or_false] at hu; rcases hu with rfl | rfl <;> rfl)
 have hown2 : w2.ownsRow base 247 2 (.slice (some ⟨g, 0, none⟩) n c) n (flatP ps) := hown1.kept hg2 (.inr (by simp [Value.ownBlock]; omega))
 obtain ⟨w3, hr3, ho3, hg3⟩ := run_copy_in (P := Tryz.prog) w2.drew base 212 212 3 247 2 Tryz.underlyingRow Tryz.sizePairs G (i + M) cap' _ ho2.drew ((i + 1) * 2) (i + M - (i + 1)) (cap' - (i + 1)) ⟨g, i * 2, none⟩ (n - i) (c - i) (n - i) (flatP (ps.drop i))
  (by simp only [Nat.min_def]; split <;> omega) hd (Own2.from hown2.drew i) (by rw [hd]; omega) flatP_one
 rw [sp2 (flatP (ps.take i)) _ [.int .i64 p.1, .int .u64 p.2] (flatP (ps.drop i)) (by rw [Array.length_toList, zeroCells_length, hd]; simp [Value.cells]; omega) (i * 2) ((i + 1) * 2) ht (by simp; omega), insert_list] at ho3
 have hlr : (ps.take i ++ p :: ps.drop i).length = n + 1 := by rw [List.length_append, List.length_cons, List.length_take, List.length_drop, hn]; omega
 have hiM : i + M = n + 1 := by omega
 have HR : Hid (InsR base (some ⟨g, 0, none⟩) ps i p w (.returned (.slice (some ⟨G, 0, none⟩) (i + M) cap')) w3) := by
  refine ⟨some ⟨G, 0, none⟩, cap', by rw [hn, hiM], ?_, ?_, fun k hk => .inr (by simp only [blk, List.mem_singleton] at hk; omega)⟩
  ·unfold Own2
   rw [hlr, ← hiM]
   exact ho3
  ·have B1 : Below w.heap.size w w1 := (frame_none hg1).below (Below.refl _ _) (Nat.le_refl _) (fun k hk => by simp at hk)
   have B2 : Below w.heap.size w w2 := (frame_some hg2).below B1 B1.size (fun k hk => by simp at hk; omega)
   have B3 : Below w.heap.size w w3 := (frame_some hg3).of_drew.below B2 B2.size (fun k hk => by simp at hk; omega)
   exact Frame.of_below B3
 have hM2 : (n : Int) + 1 - i = (M : Int) := by omega
 have n1 : ¬ ((i : Int) = n) := by omega
 have n1' : ((i : Int) == (n : Int)) = false := beq_eq_false_iff_ne.2 n1
 have n2 : (c : Int) < n + 1 := by omega
 have n3 : (i : Int) ≤ n := by omega
 have n4 : i ≤ n := by omega
 have hb2 : ¬ (cap' = i + 1) := by omega
 have hb4 : ¬ (cap' = i) := by omega
 have hb5 : ¬ (c = i) := by omega
 have w1' : IntKind.i64.wrap ((i : Int) + 1) = ((i + 1 : Nat) : Int) := by rw [IntKind.wrap_i64]; omega
 have m1 : i + 1 ≤ i + M := by omega
 have m2 : (1 : Int) ≤ M := by omega
 have m3 : 1 ≤ M := by omega
 have e1 : i + M - i = M := by omega
 have hic : i ≤ c := by omega
 replace hr1 := Lib.hid hr1
 clear hown hown0 hown1 hown2 ho1 ho2 ho3 hd ht hsrc hg1 hg2 hg3 hlr hcg hcs hv1 hn hold hG hM hiM hi0 hz hsz hby
 go_enter Tryz.func139, Tryz.ntmps139
 go_wp2_with (at_builtin; refine Lib.wpList_append_run _ rfl _ _ _ _ rfl _ _ rfl rfl _ _ hr1.out ?_)
 clear hr1 hr2
 replace hr3 := Lib.hid hr3
 refine wp_region_noPanic ?_
 refine wp_region_until (S := fun _ => True) 9 (by kernel_rfl) ?_
 have hHeld : (fun _ : World => True) w2.drew := trivial
 have hneF : Nonempty (Held fun _ => True) := ⟨⟨w2, trivial⟩⟩
 refine wpAnyU_run0F [true, true, true, true, true, true, true, true] 1 (by kernel_rfl) (by kernel_rfl) (fun _ _ _ _ h => h) (by kernel_rfl) hHeld ?_
 simp only [runOps_true, runOps_false, runOps_nil]
 repeat (first | go_big_quiet_skip | (go_big_quiet_want; go_big_quiet_op; go_big_quiet_on))
 refine wpQuiet_nil ?_
 refine wpAnyU_ready (rs := [8]) (by kernel_rfl) (by simp) ?_
 refine AllReadyU.cons rfl (fun K hK => ?_) (AllReadyU.nil)
 refine ite_of rfl ?_
 refine wp_copy_run _ _ _ _ _ rfl _ _ rfl rfl hr3.out ?_
 refine hK.out _ _ (fun _ => trivial) ?_
 clear hK K
 refine wpAnyU_done (by kernel_rfl) ?_ _
 refine NoPanic.normal ?_
 simp only [Act.put, List.setIfInBounds_toArray, List.set_cons_zero, List.set_cons_succ]
 clear hneF hHeld
 go_wp2
 go_ret
 exact HR.out
theorem insert_any (base : Nat) (A : Option Addr) (c i : Nat) (ps : List (Int × Int)) (p : Int × Int) (vb : Nat) (w : World) (hown : Own2 base w A c ps) (hi : i ≤ ps.length) (hlen : ps.length ≤ 1048576)
  (hv : At w vb #[.int .i64 p.1, .int .u64 p.2] 247) (hvb : ∀ k ∈ blk A, k ≠ vb) (hb : base ≤ w.heap.size) :
  Calls Tryz.prog 139 #[.slice A ps.length c, .int .i64 i, .slice (some ⟨vb, 0, none⟩) 1 1] w fun e w' => InsR base A ps i p w e w' := by
 by_cases h : i = ps.length
 ·subst h
  exact insert_end base A c ps p vb w hown hlen hv hb
 ·have hlt : i < ps.length := by omega
  obtain ⟨g, rfl⟩ : ∃ g, A = some ⟨g, 0, none⟩ := by
   rcases hown.2 with ⟨_, h0⟩ | ⟨g, cp, cur, h, _⟩
   ·omega
   ·simp only [Value.slice.injEq] at h; exact ⟨g, h.1⟩
  by_cases hr : ps.length + 1 ≤ c
  ·exact insert_room base g c i ps p vb w hown hlt hr hlen hv (fun e => hvb g (by simp [blk]) e.symm)
  ·exact insert_grow base g c i ps p vb w hown hlt (by omega) hlen hv hb
end Go.Proofs.YtlbnlmhcpephbaaGreatDoor
namespace Go.Proofs.YtlbnlmhcpephbaaGreatDoor
open Go.RowKit
theorem own_shorter {base k elem g n cap N : Nat} {xs : List Value} {w : World} (h : w.ownsRow base elem k (.slice (some ⟨g, 0, none⟩) n cap) n xs) (hN : N ≤ n) : w.ownsRow base elem k (.slice (some ⟨g, 0, none⟩) N cap) N (xs.take (N * k)) := by
 rcases h.2 with ⟨h, _⟩ | ⟨g', cap', cur, h, hbg, hg, hnc, hcm, hcs, htake⟩
 ·simp at h
 ·simp only [Value.slice.injEq, Option.some.injEq, Addr.mk.injEq, and_true, true_and] at h
  obtain ⟨rfl, rfl⟩ := h
  have hNk : N * k ≤ n * k := Nat.mul_le_mul_right _ hN
  have hnk : n * k ≤ cap * k := Nat.mul_le_mul_right _ hnc
  have e : xs.take (N * k) = cur.toList.take (N * k) := by rw [← htake, List.take_take, Nat.min_eq_left hNk]
  rw [e]
  exact ⟨by rw [List.length_take, Array.length_toList]; omega, .inr ⟨g, cap, cur, rfl, hbg, hg, by omega, hcm, hcs, rfl⟩⟩
def DelR (base g c : Nat) (ps : List (Int × Int)) (i : Nat) (w : World) (e : Ending) (w' : World) : Prop :=
 e = .returned (.slice (some ⟨g, 0, none⟩) (ps.length - 1) c) ∧ Own2 base w' (some ⟨g, 0, none⟩) c (ps.take i ++ ps.drop (i + 1)) ∧ Frame [g] w w'
set_option maxRecDepth 100000 in
set_option maxHeartbeats 4000000 in
theorem delete_any (base g c i : Nat) (ps : List (Int × Int)) (w : World) (hown : Own2 base w (some ⟨g, 0, none⟩) c ps) (hi : i < ps.length) (hlen : ps.length ≤ 1048576) :
  Calls Tryz.prog 162 #[.slice (some ⟨g, 0, none⟩) ps.length c, .int .i64 i, .int .i64 (i + 1 : Nat)] w fun e w' => DelR base g c ps i w e w' := by
 obtain ⟨n, hn⟩ : ∃ n, ps.length = n := ⟨_, rfl⟩
 rw [hn] at hi hlen ⊢
 have hown0 : w.ownsRow base 247 2 (.slice (some ⟨g, 0, none⟩) n c) n (flatP ps) := by rw [← hn]; exact hown
 obtain ⟨_, _, _, hnc, _⟩ := own_setRow w hown0
 obtain ⟨i0, hi0, hz, hsz, hby⟩ := Tryz.infoPairs
 obtain ⟨D, hD⟩ : ∃ D, n - (i + 1) = D := ⟨_, rfl⟩
 have hiK : i + D + 1 = n := by omega
 have hd : (flatP (ps.drop (i + 1))).length = D * 2 := by rw [flatP_len, List.length_drop, hn, hD]
 have hpre := own_shorter hown0 (show i ≤ n by omega)
 rw [flatP_take] at hpre
 obtain ⟨ad, cp, had, hsrc⟩ : ∃ (ad : Addr) (cp : Nat), ((c = i + 1 ∧ ad = ⟨g, 0, none⟩ ∧ cp = 0) ∨ (c ≠ i + 1 ∧ ad = ⟨g, (i + 1) * 2, none⟩ ∧ cp = c - (i + 1))) ∧ ∀ j u, (flatP (ps.drop (i + 1)))[j]? = some u → w.drew.cell? (ad.add j) = some u := by
  by_cases h : c = i + 1
  ·refine ⟨_, _, .inl ⟨h, rfl, rfl⟩, fun j u hj => ?_⟩
   have h0 : flatP (ps.drop (i + 1)) = [] := List.eq_nil_of_length_eq_zero (by rw [hd]; omega)
   rw [h0] at hj
   cases hj
  ·exact ⟨_, _, .inr ⟨h, rfl, rfl⟩, Own2.from hown0.drew (i + 1)⟩
 obtain ⟨w1, hr1, ho1, hg1⟩ := run_append_fits (P := Tryz.prog) w.drew base 212 212 247 i0 2 Tryz.underlyingRow hi0 hsz g i c _ hpre.drew ad D cp (flatP (ps.drop (i + 1))) hd hsrc flatP_one (by omega)
 rw [← flatP_append] at ho1
 have hzv : ∀ w, (zeroValue 247).run Tryz.prog w = .ok (.agg #[.int .i64 0, .int .u64 0]) w := fun w => by simp [zeroValue, typeInfo, hi0, hz]
 obtain ⟨w2, hr2, ho2, hg2⟩ := run_clear_spare (P := Tryz.prog) w1 base 212 0 247 2 _ Tryz.underlyingRow hzv rfl (by intro u hu; simp [Value.cells] at hu; rcases hu with rfl | rfl <;> rfl) g (i + D) c _ ho1 ((i + D) * 2) 1 (c - (i + D)) rfl (by omega) (by decide)
 have hlr : (ps.take i ++ ps.drop (i + 1)).length = i + D := by rw [List.length_append, List.length_take, List.length_drop, hn]; omega
 have HR : Hid (DelR base g c ps i w (.returned (.slice (some ⟨g, 0, none⟩) (i + D) c)) w2) := by
  refine ⟨by rw [hn, ← hiK, Nat.add_sub_cancel], ?_, (frame_some hg1).of_drew.trans (frame_some hg2)⟩
  unfold Own2
  rw [hlr]
  exact ho2
 have b1 : (i : Int) ≤ ((i + 1 : Nat) : Int) := by omega
 have b2 : ((i + 1 : Nat) : Int) ≤ n := by omega
 have b3 : i + 1 ≤ n := by omega
 have b4 : i ≤ n := by omega
 have b5 : i ≤ c := by omega
 have b6 : ¬ ((i : Int) = ((i + 1 : Nat) : Int)) := by omega
 have b7 : ((i : Int) == ((i + 1 : Nat) : Int)) = false := beq_eq_false_iff_ne.2 b6
 have b8 : i + 1 ≤ c := by omega
 replace hr1 := Lib.hid hr1
 replace hr2 := Lib.hid hr2
 have HK := Lib.hid hD
 clear hown hown0 hpre ho1 ho2 hd hsrc hg1 hg2 hlr hi0 hz hsz hby hzv hn
 go_enter Tryz.func162, Tryz.ntmps162
 go_wp2_with fail
 refine wp_region_noPanic ?_
 refine wp_region_until (S := fun _ => True) 8 (by kernel_rfl) ?_
 have hHeld : (fun _ : World => True) w.drew := trivial
 have hneF : Nonempty (Held fun _ => True) := ⟨⟨w, trivial⟩⟩
 have n1 : n - (i + D) = 1 := by omega
 have n2 : i + D ≤ n := by omega
 have n3 : ¬ (c = i + D) := by omega
 have n4 : n ≤ c := hnc
 have hD2 := HK.out
 rcases had with ⟨rfl, rfl, rfl⟩ | ⟨hc, rfl, rfl⟩
 ·skip
  refine wpAnyU_run0F [true, true, true, true, true, true] 2 (by kernel_rfl) (by kernel_rfl) (fun _ _ _ _ h => h) (by kernel_rfl) hHeld ?_
  simp only [runOps_true, runOps_false, runOps_nil]
  repeat (first | go_big_quiet_skip | (go_big_quiet_want; go_big_quiet_op; go_big_quiet_on))
  refine wpQuiet_nil ?_
  refine wpAnyU_ready (rs := [6]) (by kernel_rfl) (by simp) ?_
  refine AllReadyU.cons rfl (fun K hK => ?_) (AllReadyU.nil)
  refine ite_of rfl ?_
  refine Lib.wp_append_run _ _ _ _ _ rfl _ _ rfl rfl _ _ hr1.out ?_
  refine hK.out _ _ (fun _ => trivial) ?_
  clear hK K hD2
  simp only [Act.put, List.setIfInBounds_toArray, List.set_cons_zero, List.set_cons_succ]
  refine wpAnyU_ready (rs := [7]) (by kernel_rfl) (by simp) ?_
  refine AllReadyU.cons rfl (fun K hK => ?_) (AllReadyU.nil)
  go_simp
  go_wp2
  refine hK.out _ _ (fun _ => trivial) ?_
  clear hK K
  refine wpAnyU_done (by kernel_rfl) ?_ _
  refine NoPanic.normal ?_
  clear hneF hHeld
  have hr2' := hr2.out
  go_wp2
  go_ret
  exact HR.out
 ·skip
  refine wpAnyU_run0F [true, true, true, true, true, true] 2 (by kernel_rfl) (by kernel_rfl) (fun _ _ _ _ h => h) (by kernel_rfl) hHeld ?_
  simp only [runOps_true, runOps_false, runOps_nil]
  repeat (first | go_big_quiet_skip | (go_big_quiet_want; go_big_quiet_op; go_big_quiet_on))
  refine wpQuiet_nil ?_
  refine wpAnyU_ready (rs := [6]) (by kernel_rfl) (by simp) ?_
  refine AllReadyU.cons rfl (fun K hK => ?_) (AllReadyU.nil)
  refine ite_of rfl ?_
  refine Lib.wp_append_run _ _ _ _ _ rfl _ _ rfl rfl _ _ hr1.out ?_
  refine hK.out _ _ (fun _ => trivial) ?_
  clear hK K hD2
  simp only [Act.put, List.setIfInBounds_toArray, List.set_cons_zero, List.set_cons_succ]
  refine wpAnyU_ready (rs := [7]) (by kernel_rfl) (by simp) ?_
  refine AllReadyU.cons rfl (fun K hK => ?_) (AllReadyU.nil)
  go_simp
  go_wp2
  refine hK.out _ _ (fun _ => trivial) ?_
  clear hK K
  refine wpAnyU_done (by kernel_rfl) ?_ _
  refine NoPanic.normal ?_
  clear hneF hHeld
  have hr2' := hr2.out
  go_wp2
  go_ret
  exact HR.out
end Go.Proofs.YtlbnlmhcpephbaaGreatDoor
namespace Go.Proofs.YtlbnlmhcpephbaaGreatDoor
open Go.RowKit
def CloR (ps : List (Int × Int)) (w : World) (e : Ending) (w' : World) : Prop := ∃ A' c', e = .returned (.slice A' ps.length c') ∧ Own2 w.heap.size w' A' c' ps ∧ Below w.heap.size w w'
set_option maxRecDepth 100000 in
set_option maxHeartbeats 2000000 in
theorem clone_any (base : Nat) (A : Option Addr) (c : Nat) (ps : List (Int × Int)) (w : World) (hown : Own2 base w A c ps) (hlen : ps.length ≤ 1048576) :
    Calls Tryz.prog 212 #[.slice A ps.length c] w fun e w' => CloR ps w e w' := by
  have q22 : ∀ (w : World) (a : Option Addr) (n c n' c' : Nat), (binOp .eql 212 (.slice a n c) (.slice none n' c')).run Tryz.prog w = .ok (.bool a.isNone) w := fun w a n c n' c' => Lib.run_eql_slice_nil w _ _ a n c n' c' Tryz.underlyingRow
  cases A with
  | none =>
    have h0 : ps = [] ∧ c = 0 := by
      rcases hown.2 with ⟨h, h0⟩ | ⟨g, cp, cur, h, _⟩
      · simp only [Value.slice.injEq] at h; exact ⟨List.eq_nil_of_length_eq_zero h0, h.2.2⟩
      · simp at h
    obtain ⟨rfl, rfl⟩ := h0
    clear hown
    go_enter Tryz.func212, Tryz.ntmps212
    go_wp2
    go_ret
    exact ⟨none, 0, rfl, Own2.nil _ _, Below.refl _ _⟩
  | some a =>
    obtain ⟨g, rfl⟩ : ∃ g, a = ⟨g, 0, none⟩ := by
      rcases hown.2 with ⟨h, _⟩ | ⟨g, cp, cur, h, _⟩
      · simp at h
      · simp only [Value.slice.injEq, Option.some.injEq] at h; exact ⟨g, h.1⟩
    obtain ⟨n, hn⟩ : ∃ n, ps.length = n := ⟨_, rfl⟩
    have hown1 : Own2 w.heap.size (w.alloc (.cells #[] 247)) (some ⟨w.heap.size, 0, none⟩) 0 [] := World.ownsRow_made w #[] 0 (Nat.le_refl _) (Nat.zero_le _) rfl
    have hsrc : ∀ j u, (flatP ps)[j]? = some u → (w.alloc (.cells #[] 247)).cell? ((⟨g, 0, none⟩ : Addr).add j) = some u := fun j u hj => World.ownsRow.cells (hown.alloc (.cells #[] 247)) (g := g) rfl j u hj
    obtain ⟨A', c', w', hr, ho, hf, hk⟩ := run_app w.heap.size (some ⟨w.heap.size, 0, none⟩) 0 [] ps _ hown1 ⟨g, 0, none⟩ c hsrc (by simp; omega) (by simp)
    simp only [List.length_nil, Nat.zero_add] at hr
    have HR : Hid (CloR ps w (.returned (.slice A' ps.length c')) w') := ⟨A', c', rfl, ho, hf.below ((Below.refl _ w).alloc (Nat.le_refl _) _) (by simp) (fun k hk => by simp [blk] at hk; omega)⟩
    replace hr := Lib.hid hr
    clear ho hf hk hown hown1 hsrc
    rw [hn] at hr HR ⊢
    clear hn
    go_enter Tryz.func212, Tryz.ntmps212
    go_wp2_with (at_builtin; refine Lib.wpList_append_run _ rfl _ _ _ _ rfl _ _ rfl rfl _ _ hr.out ?_)
    go_ret
    exact HR.out
end Go.Proofs.YtlbnlmhcpephbaaGreatDoor
namespace Go.Proofs.YtlbnlmhcpephbaaGreatDoor
open Go.RowKit
section
variable {ps : List (Int × Int)} {q : Int} {k : Nat}
theorem mem_take_lt (hp : Posn ps q k) : ∀ x ∈ ps.take k, x.1 < q := by
 intro x hx
 obtain ⟨j, hj, rfl⟩ := List.getElem_of_mem hx
 rw [List.length_take] at hj
 have := hp.under j (by omega)
 rw [List.getElem_take]
 rw [List.getD_eq_getElem?_getD, List.getElem?_eq_getElem (by omega)] at this
 exact this
theorem mem_drop_ge (hp : Posn ps q k) : ∀ x ∈ ps.drop k, q ≤ x.1 := by
 intro x hx
 obtain ⟨j, hj, rfl⟩ := List.getElem_of_mem hx
 rw [List.length_drop] at hj
 have := hp.over (k + j) (by omega) (by omega)
 rw [List.getElem_drop]
 rw [List.getD_eq_getElem?_getD, List.getElem?_eq_getElem (by omega)] at this
 exact this
theorem posn_lt (hp : Posn ps q k) : ps.filter (fun x => decide (x.1 < q)) = ps.take k := by
 conv => lhs; rw [← List.take_append_drop k ps]
 rw [List.filter_append, List.filter_eq_self.2 (fun x hx => decide_eq_true (mem_take_lt hp x hx)), List.filter_eq_nil_iff.2 (fun x hx => by have := mem_drop_ge hp x hx; simp; omega), List.append_nil]
theorem drop_cons (h : k < ps.length) : ps.drop k = ps.getD k (0, 0) :: ps.drop (k + 1) := by
 rw [List.drop_eq_getElem_cons h, List.getD_eq_getElem?_getD, List.getElem?_eq_getElem h]
 rfl
theorem posn_found (hg : Gd ps) (hp : Posn ps q k) (hk : k < ps.length) (hq : (ps.getD k (0, 0)).1 = q) : ps.filter (fun x => decide (q < x.1)) = ps.drop (k + 1) ∧ cnt ps q = (ps.getD k (0, 0)).2 := by
 have hd := drop_cons hk
 have hgt : ∀ x ∈ ps.drop (k + 1), q < x.1 := by
  have := hg.srt
  rw [← List.take_append_drop k ps, hd] at this
  have h2 := (List.pairwise_append.1 this).2.1
  rw [List.pairwise_cons] at h2
  intro x hx
  have := h2.1 x hx
  omega
 have e : ps = ps.take k ++ ps.getD k (0, 0) :: ps.drop (k + 1) := by rw [← hd, List.take_append_drop]
 constructor
 ·conv => lhs; rw [e]
  rw [List.filter_append, List.filter_cons, List.filter_eq_nil_iff.2 (fun x hx => by have := mem_take_lt hp x hx; simp; omega), if_neg (by rw [decide_eq_true_eq]; omega), List.nil_append, List.filter_eq_self.2 (fun x hx => decide_eq_true (hgt x hx))]
 ·conv => lhs; rw [e]
  rw [cnt_append, cnt_cons, if_pos hq, cnt_zero (fun x hx => by have := mem_take_lt hp x hx; omega), cnt_zero (fun x hx => by have := hgt x hx; omega)]
  omega
theorem posn_none (hg : Gd ps) (hp : Posn ps q k) (hn : ¬ (k < ps.length ∧ (ps.getD k (0, 0)).1 = q)) : ps.filter (fun x => decide (q < x.1)) = ps.drop k ∧ cnt ps q = 0 := by
 have hgt : ∀ x ∈ ps.drop k, q < x.1 := by
  intro x hx
  by_cases hk : k < ps.length
  ·have hd := drop_cons hk
   have h0 := hp.over k (Nat.le_refl _) hk
   have h1 : (ps.getD k (0, 0)).1 ≠ q := fun e => hn ⟨hk, e⟩
   rw [hd] at hx
   rcases List.mem_cons.1 hx with rfl | hx
   ·omega
   ·have := hg.srt
    rw [← List.take_append_drop k ps, hd] at this
    have h2 := (List.pairwise_append.1 this).2.1
    rw [List.pairwise_cons] at h2
    have := h2.1 x hx
    omega
  ·rw [List.drop_of_length_le (by omega)] at hx; cases hx
 constructor
 ·conv => lhs; rw [← List.take_append_drop k ps]
  rw [List.filter_append, List.filter_eq_nil_iff.2 (fun x hx => by have := mem_take_lt hp x hx; simp; omega), List.nil_append, List.filter_eq_self.2 (fun x hx => decide_eq_true (hgt x hx))]
 ·rw [← List.take_append_drop k ps, cnt_append, cnt_zero (fun x hx => by have := mem_take_lt hp x hx; omega), cnt_zero (fun x hx => by have := hgt x hx; omega)]
  omega
end
theorem flatP_set (ps : List (Int × Int)) (k : Nat) (v : Int) (hk : k < ps.length) : flatP (ps.set k ((ps.getD k (0, 0)).1, v)) = (flatP ps).set (k * 2 + 1) (.int .u64 v) := by
  induction ps generalizing k with
  | nil => simp at hk
  | cons x ps ih =>
    cases k with
    | zero => simp [flatP_cons]
    | succ k =>
      have := ih k (by simpa using hk)
      rw [List.set_cons_succ, flatP_cons, flatP_cons, show (k + 1) * 2 + 1 = (k * 2 + 1) + 1 + 1 by omega]
      simp only [List.getD_cons_succ, List.cons_append, List.nil_append, List.set_cons_succ]
      rw [this]
theorem own_setCell {base k elem g n cap o : Nat} {xs : List Value} {w : World} (h : w.ownsRow base elem k (.slice (some ⟨g, 0, none⟩) n cap) n xs) (ho : o < n * k) (v : Value) :
  (w.setCell ⟨g, o, none⟩ v).ownsRow base elem k (.slice (some ⟨g, 0, none⟩) n cap) n (xs.set o v) := by
 have hl := h.1
 rcases h.2 with ⟨h, _⟩ | ⟨g', cap', cur, h, hbg, hg, hnc, hcm, hcs, htake⟩
 ·simp at h
 ·simp only [Value.slice.injEq, Option.some.injEq, Addr.mk.injEq, and_true, true_and] at h
  obtain ⟨rfl, rfl⟩ := h
  rw [setCell_eq_setRow w g o cur elem (0, 0) v hg]
  refine ⟨by rw [List.length_set]; exact hl, .inr ⟨g, cap, _, rfl, hbg, setRow_heap w g cur _ elem _ hg, hnc, hcm, by simpa using hcs, ?_⟩⟩
  rw [Array.toList_setIfInBounds, ← htake]
  apply List.ext_getElem?
  intro j
  simp only [List.getElem?_take, List.getElem?_set, List.length_take, Array.length_toList]
  have hnk : n * k ≤ cap * k := Nat.mul_le_mul_right _ hnc
  by_cases e : o = j
  ·subst e
   simp only [ho, if_true]
   rw [Nat.min_eq_left (by omega)]
   simp [ho]
   omega
  ·simp [e]
def AddR (base : Nat) (A : Option Addr) (ps : List (Int × Int)) (q cc : Int) (w : World) (e : Ending) (w' : World) : Prop :=
 ∃ A' c', e = .returned (.slice A' (rowAdd ps q cc).length c') ∧ Own2 base w' A' c' (rowAdd ps q cc) ∧ Frame (blk A) w w' ∧ ∀ k ∈ blk A', k ∈ blk A ∨ w.heap.size ≤ k
set_option maxRecDepth 100000 in
set_option maxHeartbeats 2000000 in
theorem add06_any (base : Nat) (A : Option Addr) (c : Nat) (ps : List (Int × Int)) (q cc : Int) (w : World) (hown : Own2 base w A c ps) (hg : Gd ps) (hlen : ps.length ≤ 1048576) (hcc : 0 < cc) (hs : cnt ps q + cc < 18446744073709551616) (hb : base ≤ w.heap.size) :
    Calls Tryz.prog 127 #[.slice A ps.length c, .int .i64 q, .int .u64 cc] w fun e w' => AddR base A ps q cc w e w' := by
  have HC := Lib.hid (rfind06_any A c ps.length ps q w rfl hown.rd hg (by omega))
  have HE := Lib.hid (rowAdd_eq hg hcc hs)
  have HG := Lib.hid hg
  have HO := Lib.hid hown
  have HS := Lib.hid hs
  have hcap := hown.base_le
  obtain ⟨n, hn⟩ : ∃ n, ps.length = n := ⟨_, rfl⟩
  rw [hn] at HC hlen ⊢
  have HN := Lib.hid hn
  have hcc0 : (cc == 0) = false := beq_eq_false_iff_ne.2 (by omega)
  clear hn hg hown hs
  have HCC := Lib.hid hcc
  clear hcc
  go_enter Tryz.func127, Tryz.ntmps127
  go_wp2_with fail
  refine HC.out.mono ?_
  rintro e w1 ⟨⟨k, f, rfl, hp, hf⟩, hb1⟩
  replace HO := Lib.hid (HO.out.below hb1)
  have hz := hb1.size
  cases f with
  | true =>
    obtain ⟨hk, hq⟩ := hf.1 rfl
    obtain ⟨e1, e2⟩ := posn_found HG.out hp hk hq
    have e3 := posn_lt hp
    obtain ⟨g, rfl⟩ : ∃ g, A = some ⟨g, 0, none⟩ := by
      rcases HO.out.2 with ⟨_, h0⟩ | ⟨g, cp, cur, h, _⟩
      · omega
      · simp only [Value.slice.injEq] at h; exact ⟨g, h.1⟩
    have hr : rowAdd ps q cc = ps.set k ((ps.getD k (0, 0)).1, (ps.getD k (0, 0)).2 + cc) := by
      rw [HE.out, e1, e2, e3, List.set_eq_take_append_cons_drop, if_pos hk, List.append_assoc, hq]
      rfl
    obtain ⟨g', o', he, hg', hc1, hc2⟩ := HO.out.rd.at' k hk
    cases he
    have hown2 := own_setCell HO.out (o := k * 2 + 1) (by omega) (.int .u64 ((ps.getD k (0, 0)).2 + cc))
    rw [← flatP_set ps k _ hk, ← hr] at hown2
    have hrl : (rowAdd ps q cc).length = n := by rw [hr, List.length_set, HN.out]
    obtain ⟨v, hv⟩ : ∃ v, (ps.getD k (0, 0)).2 = v := ⟨_, rfl⟩
    rw [hv] at hc2 hown2
    have hfr : w1.frozen? ⟨g, k * 2 + 1, none⟩ = false := by
      obtain ⟨cur, hcg, _⟩ := own_setRow w1 HO.out
      simp [World.frozen?, hcg]
    have hv0 := HG.out.pos (ps.getD k (0, 0)) (getD_mem' hk)
    rw [hv] at hv0
    have hvs : v + cc < 18446744073709551616 := by have := HS.out; rw [e2, hv] at this; exact this
    have hw : IntKind.u64.wrap (v + cc) = v + cc := by simp only [IntKind.wrap_u64]; have := HCC.out; omega
    have hkn : k < n := by rw [← HN.out]; exact hk
    have k0 : (0 : Int) ≤ k := by omega
    have k1 : (k : Int) < n := by omega
    have HR : Hid (AddR base (some ⟨g, 0, none⟩) ps q cc w (.returned (.slice (some ⟨g, 0, none⟩) n c)) (w1.setCell ⟨g, k * 2 + 1, none⟩ (.int .u64 (v + cc)))) := by
      refine ⟨some ⟨g, 0, none⟩, c, by rw [hrl], ?_, (Frame.of_below hb1).setc (.inl (by simp [blk])) _ _, fun j hj => .inl hj⟩
      unfold Own2
      rw [hrl]
      rw [HN.out] at hown2
      exact hown2
    simp only [Nat.zero_add] at hc1 hc2
    clear hown2 hr hrl e1 e2 e3 hf hp hq hv hvs hv0 hk HC HE HG HO hb1 hcap
    go_wp2
    go_ret
    exact HR.out
  | false =>
    have hnf : ¬ (k < ps.length ∧ (ps.getD k (0, 0)).1 = q) := fun h => by have := hf.2 h; cases this
    obtain ⟨e1, e2⟩ := posn_none HG.out hp hnf
    have e3 := posn_lt hp
    have hr : rowAdd ps q cc = ps.take k ++ (q, cc) :: ps.drop k := by
      rw [HE.out, e1, e2, e3, Int.zero_add, List.append_assoc]
      rfl
    have hk : k ≤ ps.length := hp.le
    have hrl : (rowAdd ps q cc).length = n + 1 := by rw [hr, List.length_append, List.length_cons, List.length_take, List.length_drop, HN.out]; have := HN.out; omega
    have HP := Lib.hid (And.intro hr (And.intro hk hrl))
    clear hr hk hrl e1 e2 e3 hf hp hnf
    go_wp2_with fail
    have hown2 : Own2 base (w1.alloc (.cells #[.int .i64 q, .int .u64 cc] 247)) A c ps := HO.out.alloc _
    have HI := insert_any base A c k ps (q, cc) w1.heap.size _ hown2 HP.out.2.1 (by rw [HN.out]; exact hlen) (At.new w1 #[.int .i64 q, .int .u64 cc] 247)
      (fun j hj e => by
        cases A with
        | none => simp [blk] at hj
        | some a =>
          simp only [blk, List.mem_singleton] at hj
          have := (hcap a rfl).2
          omega) (by simp; omega)
    rw [HN.out] at HI
    refine HI.mono ?_
    rintro e w2 ⟨A', c', rfl, ho, hfr, hkk⟩
    rw [HN.out]
    have HR : Hid (AddR base A ps q cc w (.returned (.slice A' (n + 1) c')) w2) := by
      refine ⟨A', c', by rw [HP.out.2.2], ?_, ((Frame.of_below hb1).alloc _).trans hfr, fun j hj => ?_⟩
      · rw [HP.out.1]; exact ho
      · rcases hkk j hj with h | h
        · exact .inl h
        · exact .inr (by simp at h; omega)
    clear ho hfr hkk HI hown2
    go_wp2
    go_ret
    exact HR.out
end Go.Proofs.YtlbnlmhcpephbaaGreatDoor

namespace Go.Proofs.YtlbnlmhcpephbaaGreatDoor
open Go.RowKit
def plusF : Int → List Int → Option Int
 | n, [] => some n
 | n, a :: l => if n + a ≤ 9223372036854775807 then plusF (n + a) l else none
def plusV (o : Option Int) : Value := .tuple #[.int .u64 (o.getD 0), .bool o.isSome]
theorem plus_any (A : Option Addr) (len cap : Nat) (xs : List Int) (w : World) (hl : xs.length = len) (hm : len ≤ 9223372036854775807)
  (hx : ∀ x ∈ xs, 0 ≤ x ∧ x < 18446744073709551616)
  (hc : ∀ j, j < len → ∃ ad, A = some ad ∧ w.cell? (ad.add j) = some (.int .u64 (xs.getD j 0))) :
  Calls Tryz.prog 102 #[.slice A len cap] w fun e w' => e = .returned (plusV (plusF 0 xs)) ∧ w = w' := by
 go_enter Tryz.func102, Tryz.ntmps102
 go_wp2
 go_loop [4, 9] (fun n i => ∃ k : Nat, ∃ m : Int, k ≤ len ∧ 0 ≤ m ∧ m ≤ 9223372036854775807 ∧ n = .int .u64 m ∧ i = .int .i64 k ∧ Hid (plusF 0 xs = plusF m (xs.drop k))) (fun _ i => len - (intOf i).toNat)
 case atStart => exact ⟨0, 0, by omega, by omega, by omega, rfl, rfl, rfl⟩
 case round =>
  obtain ⟨k, m, hk, hm0, hm', rfl, rfl, HF⟩ := hrel
  by_cases hlt : k < len
  ·obtain ⟨ad, rfl, hcell⟩ := hc k hlt
   have hb : 0 ≤ xs.getD k 0 ∧ xs.getD k 0 < 18446744073709551616 := by
    rw [List.getD_eq_getElem?_getD, List.getElem?_eq_getElem (by omega)]
    exact hx _ (List.getElem_mem _)
   have HD := Lib.hid (show xs.drop k = xs.getD k 0 :: xs.drop (k+1) by
    rw [List.getD_eq_getElem?_getD, List.getElem?_eq_getElem (by omega)]
    exact List.drop_eq_getElem_cons (by omega))
   clear hc hx
   obtain ⟨x, hxk⟩ : ∃ x : Int, xs.getD k 0 = x := ⟨_, rfl⟩
   rw [hxk] at hb hcell HD
   clear hxk
   obtain ⟨hb1, hb2⟩ := hb
   by_cases hs : m + x ≤ 9223372036854775807
   ·have hs' : ¬ 9223372036854775807 - m < x := by omega
    go_wp2
    go_round
    case rel => exact ⟨k + 1, m + x, by omega, by omega, hs, rfl, by go_num, by rw [HF.out, HD.out, plusF, if_pos hs]; rfl⟩
    case measure => simp [intOf]; omega
   ·have hs' : 9223372036854775807 - m < x := by omega
    go_wp2
    go_ret2
    rw [HF.out, HD.out, plusF, if_neg (by omega)]
    exact ⟨rfl, rfl⟩
  ·go_wp2
   go_ret2
   rw [HF.out, List.drop_eq_nil_of_le (by omega)]
   exact ⟨rfl, rfl⟩
def plus2Q (a b : Int) : Int := if a + b ≤ 9223372036854775807 then a + b else 0
def plus2Ok (a b : Int) : Bool := decide (a + b ≤ 9223372036854775807)
theorem plus2_yes {a b : Int} (h : a + b ≤ 9223372036854775807) : plus2Q a b = a + b ∧ plus2Ok a b = true := ⟨if_pos h, decide_eq_true h⟩
theorem plus2_no {a b : Int} (h : ¬ a + b ≤ 9223372036854775807) : plus2Q a b = 0 ∧ plus2Ok a b = false := ⟨if_neg h, decide_eq_false h⟩
theorem plus2_any (g : Nat) (a b : Int) (w : World) (ha : 0 ≤ a) (ha' : a < 18446744073709551616) (hb : 0 ≤ b) (hb' : b < 18446744073709551616)
  (h0 : w.cell? ⟨g, 0, none⟩ = some (.int .u64 a)) (h1 : w.cell? ⟨g, 1, none⟩ = some (.int .u64 b)) :
  Calls Tryz.prog 102 #[.slice (some ⟨g, 0, none⟩) 2 2] w fun e w' => e = .returned (.tuple #[.int .u64 (plus2Q a b), .bool (plus2Ok a b)]) ∧ w = w' := by
 refine (plus_any (some ⟨g, 0, none⟩) 2 2 [a, b] w rfl (by omega) (by intro x hx; simp at hx; omega) (fun j hj => ⟨_, rfl, ?_⟩)).mono ?_
 ·rcases (show j = 0 ∨ j = 1 by omega) with rfl | rfl
  ·simpa [Addr.add] using h0
  ·simpa [Addr.add] using h1
 ·rintro e w' ⟨rfl, rfl⟩
  refine ⟨?_, rfl⟩
  congr 1
  unfold plusV plus2Q plus2Ok plusF plusF plusF
  by_cases h : a + b ≤ 9223372036854775807
  ·rw [if_pos (by omega), if_pos (by omega), if_pos h, decide_eq_true h]; simp
  ·rw [if_neg h, decide_eq_false h]
   by_cases h' : 0 + a ≤ 9223372036854775807
   ·rw [if_pos h', if_neg (by omega)]; rfl
   ·rw [if_neg h']; rfl
end Go.Proofs.YtlbnlmhcpephbaaGreatDoor
