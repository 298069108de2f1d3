/- Texts of this claim, joined, indents halved: EIns, Row, App, PairsR, EBsf, RunsFind. -/
import Derived.Test.YtlbnlmhcpephbaaGreatDoorProg
import Derived.Lib.Overlaps
import Derived.Lib.SliceRun
import Derived.Laws.Externs
import Derived.Maps.AppendAt
import Derived.OwnWalk
import Derived.Below
import Derived.Test.YtlbnlmhcpephbaaGreatDoorKe2
namespace Go.Proofs.YtlbnlmhcpephbaaGreatDoor
open Go.RowKit
theorem sp1 {α : Type} (X Y ys P : List α) (h : ys.length = P.length) (a b : Nat) (ha : X.length = a) (hb : a + P.length = b) : splice (splice (X ++ Y ++ ys) b Y) a P = X ++ P ++ Y := by
 subst ha
 subst hb
 have e1 : splice (X ++ Y ++ ys) (X.length + P.length) Y = X ++ ((Y ++ ys).take P.length ++ Y) := by
  unfold splice
  rw [List.append_assoc X Y ys, List.take_append, List.take_of_length_le (by omega), Nat.add_sub_cancel_left, List.drop_of_length_le (by simp only [List.length_append]; omega), List.append_nil, List.append_assoc]
 have e2 : ((Y ++ ys).take P.length).length = P.length := by rw [List.length_take, List.length_append]; omega
 rw [e1]
 unfold splice
 rw [List.take_left, List.drop_append, List.drop_of_length_le (by omega), List.nil_append, Nat.add_sub_cancel_left, List.drop_append, List.drop_of_length_le (by omega), e2, Nat.sub_self, List.drop_zero, List.nil_append, List.append_assoc]
theorem sp2 {α : Type} (X Z P Y : List α) (h : Z.length = P.length + Y.length) (a b : Nat) (ha : X.length = a) (hb : a + P.length = b) : splice (splice (X ++ Z) a P) b Y = X ++ P ++ Y := by
 subst ha
 subst hb
 have e1 : splice (X ++ Z) X.length P = X ++ (P ++ Z.drop P.length) := by
  unfold splice
  rw [List.take_left, List.drop_append, List.drop_of_length_le (by omega), List.nil_append, Nat.add_sub_cancel_left]
 rw [e1]
 unfold splice
 rw [List.take_append, List.take_of_length_le (by omega), Nat.add_sub_cancel_left, List.take_left, List.drop_of_length_le (by simp only [List.length_append, List.length_drop]; omega), List.append_nil, List.append_assoc]
inductive Sl
 | p
 | l
 | t
def Sl.ty : Sl → Ty
 | .p => ⟨212, 247, 2, 16, .agg #[.int .i64 0, .int .u64 0]⟩
 | .l => ⟨179, 235, 3, 24, .agg #[.int .u64 0, .int .i64 0, .int .i64 0]⟩
 | .t => ⟨170, 230, 3, 24, .agg #[.int .i64 0, .int .u64 0, .int .u64 0]⟩
theorem Sl.ok : ∀ j : Sl, j.ty.Ok
 | .p => ⟨by kernel_rfl, by kernel_rfl, rfl, rfl, by decide, by decide⟩
 | .l => ⟨by kernel_rfl, by kernel_rfl, rfl, rfl, by decide, by decide⟩
 | .t => ⟨by kernel_rfl, by kernel_rfl, rfl, rfl, by decide, by decide⟩
def Sl.ins : Sl → FuncId
 | .p => 139
 | .l => 366
 | .t => 282
def Sl.del : Sl → FuncId
 | .p => 162
 | .l => 364
 | .t => 283
def Sl.cln : Sl → FuncId
 | .p => 212
 | .l => 379
 | .t => 116
def Sl.ovl : Sl → FuncId
 | .p => 144
 | .l => 368
 | .t => 296
theorem Sl.over (j : Sl) {w : World} {vb g o n m lb cb : Nat} (hvb : vb ≠ g) (hsh : w.shape? vb = some (j.ty.T, n)) (hsg : w.shape? g = some (j.ty.T, m)) (hm : m ≠ 0) (h0 : ∀ i, w.frozen? ⟨vb, i, none⟩ = false) : (callFunc j.ovl #[.slice (some ⟨vb, 0, none⟩) 1 1, .slice (some ⟨g, o, none⟩) lb cb]).run Tryz.prog w = .ok (.value (.bool false)) w := by
 have hzE : ∀ w, (Go.sizeOf j.ty.T).run Tryz.prog w = .ok j.ty.k w := fun w => by obtain ⟨i0, h0, _, h2, _⟩ := j.ok.get; simp [sizeOf, typeInfo, h0, h2]
 have key := Lib.run_overlaps_apart (P := Tryz.prog) w j.ty.S 4 j.ty.T j.ok.u j.ty.k hzE ⟨vb, 0, none⟩ ⟨g, o, none⟩ 1 1 lb cb hvb _ _ _ _ hsh hsg hm (h0 0) (h0 _)
 rcases j with _ | _ | _
 all_goals
  dsimp only [Sl.ovl, Sl.ty] at key ⊢
  first
   | rw [run_callFunc_extern Tryz.func144 (by kernel_rfl) (by kernel_rfl) (by kernel_rfl) (e := Extern.SlicesOverlaps.overlaps #[212, 212] #[4]) (by kernel_rfl), key]
   | rw [run_callFunc_extern Tryz.func368 (by kernel_rfl) (by kernel_rfl) (by kernel_rfl) (e := Extern.SlicesOverlaps.overlaps #[179, 179] #[4]) (by kernel_rfl), key]
   | rw [run_callFunc_extern Tryz.func296 (by kernel_rfl) (by kernel_rfl) (by kernel_rfl) (e := Extern.SlicesOverlaps.overlaps #[170, 170] #[4]) (by kernel_rfl), key]
  rfl
section
variable {j : Sl} {base n c i q g vb : Nat} {A : Option Addr} {xs : List Value} {cs : Array Value} {w : World}
def InsG (j : Sl) (base : Nat) (A : Option Addr) (n i : Nat) (xs ys : List Value) (w : World) (e : Ending) (w' : World) : Prop :=
 ∃ A' c', e = .returned (.slice A' (n + 1) c') ∧ w'.ownsRow base j.ty.T j.ty.k (.slice A' (n + 1) c') (n + 1) (xs.take (i * j.ty.k) ++ ys ++ xs.drop (i * j.ty.k)) ∧ Frame (blk A) w w' ∧ ∀ k ∈ blk A', k ∈ blk A ∨ w.heap.size ≤ k
theorem own_src {e : TypeId} {k : Nat} (h : w.ownsRow base e k (.slice (some ⟨g, 0, none⟩) n c) n xs) (i : Nat) : ∀ j u, (xs.drop i)[j]? = some u → w.cell? ((⟨g, i, none⟩ : Addr).add j) = some u := fun j u hj => by
 rw [List.getElem?_drop] at hj
 have := World.ownsRow.cells h (g := g) rfl (i + j) u hj
 rw [Addr.add_lit, Nat.zero_add] at this
 rw [Addr.add_lit]
 exact this
set_option maxRecDepth 100000 in
set_option maxHeartbeats 4000000 in
theorem insert_end (h : w.ownsRow base j.ty.T j.ty.k (.slice A n c) n xs) (hl : n ≤ 1048576) (hv : At w vb cs j.ty.T) (hc : cs.size = j.ty.k) (h1 : ∀ u ∈ cs.toList, u.oneCell' = true) (hb : base ≤ w.heap.size) :
    Calls Tryz.prog j.ins #[.slice A n c, .int .i64 n, .slice (some ⟨vb, 0, none⟩) 1 1] w (InsG j base A n n xs cs.toList w) := by
  obtain ⟨A', c', w', hr, ho, hf, hk⟩ := run_app_g (cy := 1) (m := 1) (Y := some ⟨vb, 0, none⟩) j.ok h (by simp [hc]) (fun q u hq => ⟨vb, 0, rfl, hv.lt, by rw [Nat.zero_add]; exact hv.cell (by simpa using hq)⟩) (by simp) h1 (by omega) hb
  have xl := h.1
  have R : Hid (InsG j base A n n xs cs.toList w (.returned (.slice A' (n + 1) c')) w') := ⟨A', c', rfl, by rw [List.take_of_length_le (by omega), List.drop_of_length_le (by omega), List.append_nil]; exact ho, hf, hk⟩
  obtain ⟨hcap, hnil, _⟩ := own_nil h
  replace hr := Lib.hid hr
  clear ho hf hk h xl hv hc h1
  rcases j with _ | _ | _
  all_goals
    dsimp only [Sl.ty, Sl.ins] at hr ⊢
    first | go_enter Tryz.func139, Tryz.ntmps139 | go_enter Tryz.func366, Tryz.ntmps366 | go_enter Tryz.func282, Tryz.ntmps282
    cases A with
    | none =>
      obtain ⟨rfl, rfl⟩ := hnil rfl
      clear hnil hcap
      go_wp2_with (at_builtin; refine Lib.wpList_append_run _ rfl _ _ _ _ rfl _ _ rfl rfl _ _ hr.out ?_)
      go_ret
      exact R.out
    | some a =>
      clear hnil
      by_cases hc : c = n
      · subst hc
        go_wp2_with (at_builtin; refine Lib.wpList_append_run _ rfl _ _ _ _ rfl _ _ rfl rfl _ _ hr.out ?_)
        go_ret
        exact R.out
      · go_wp2_with (at_builtin; refine Lib.wpList_append_run _ rfl _ _ _ _ rfl _ _ rfl rfl _ _ hr.out ?_)
        go_ret
        exact R.out
theorem own_longer {base k elem g n cap N : Nat} {xs : List Value} {w : World} (h : w.ownsRow base elem k (.slice (some ⟨g, 0, none⟩) n cap) n xs) (hN : n ≤ N) (hc : N ≤ cap) :
  ∃ ys : List Value, ys.length = (N - n) * k ∧ w.ownsRow base elem k (.slice (some ⟨g, 0, none⟩) N cap) N (xs ++ ys) := by
 rcases h.2 with ⟨h, _⟩ | ⟨g', cap', cur, h, hbg, hg, hnc, hcm, hcs, htake⟩
 ·simp at h
 ·simp only [Value.slice.injEq, Option.some.injEq, Addr.mk.injEq, and_true, true_and] at h
  obtain ⟨rfl, rfl⟩ := h
  have hNk : N * k ≤ cap * k := Nat.mul_le_mul_right _ hc
  have hnN : n * k ≤ N * k := Nat.mul_le_mul_right _ hN
  have e : xs ++ (cur.toList.drop (n * k)).take ((N - n) * k) = cur.toList.take (N * k) := by
   rw [← htake, Nat.sub_mul, ← List.take_add, Nat.add_sub_cancel' hnN]
  refine ⟨(cur.toList.drop (n * k)).take ((N - n) * k), ?_, ?_⟩
  ·rw [List.length_take, List.length_drop, Array.length_toList, Nat.sub_mul]; omega
  ·rw [e]
   exact ⟨by rw [List.length_take, Array.length_toList]; omega, .inr ⟨g, cap, cur, rfl, hbg, hg, hc, hcm, hcs, rfl⟩⟩
set_option maxRecDepth 100000 in
set_option maxHeartbeats 4000000 in
theorem insert_in (h : w.ownsRow base j.ty.T j.ty.k (.slice (some ⟨g, 0, none⟩) n c) n xs) (hx : ∀ u ∈ xs, u.oneCell' = true) (hl : n ≤ 1048576) (hi : i < n) (hv : At w vb cs j.ty.T) (hc : cs.size = j.ty.k) (h1 : ∀ u ∈ cs.toList, u.oneCell' = true) (hvb : vb ≠ g) (hb : base ≤ w.heap.size) :
  Calls Tryz.prog j.ins #[.slice (some ⟨g, 0, none⟩) n c, .int .i64 i, .slice (some ⟨vb, 0, none⟩) 1 1] w (InsG j base (some ⟨g, 0, none⟩) n i xs cs.toList w) := by
 have xl := h.1
 have kk := j.ok.q.1
 have ik : i * j.ty.k + (n - i) * j.ty.k = n * j.ty.k := by rw [← Nat.add_mul, Nat.add_sub_cancel' (by omega)]
 have ik1 : (i + 1) * j.ty.k = i * j.ty.k + j.ty.k := Nat.succ_mul _ _
 have nk1 : (n + 1) * j.ty.k = n * j.ty.k + j.ty.k := Nat.succ_mul _ _
 have hd : (xs.drop (i * j.ty.k)).length = (n - i) * j.ty.k := by rw [List.length_drop]; omega
 have ht : (xs.take (i * j.ty.k)).length = i * j.ty.k := by rw [List.length_take]; omega
 have od : ∀ u ∈ xs.drop (i * j.ty.k), u.oneCell' = true := fun u hu => hx u (List.mem_of_mem_drop hu)
 have cl : cs.toList.length = j.ty.k := by simpa using hc
 have src : ∀ w1 : World, At w1 vb cs j.ty.T → ∀ q u, cs.toList[q]? = some u → w1.cell? ((⟨vb, 0, none⟩ : Addr).add q) = some u := fun w1 hv q u hq => by rw [Addr.add_lit, Nat.zero_add]; exact hv.cell (by simpa using hq)
 have n1 : ¬ ((i : Int) = n) := by omega
 have n1' : ((i : Int) == (n : Int)) = false := beq_eq_false_iff_ne.2 n1
 have n3 : (i : Int) ≤ n := by omega
 have n4 : i ≤ n := by omega
 have hb5 : ¬ (c = i) := by have := (own_nil h).1; omega
 have hic : i ≤ c := by have := (own_nil h).1; omega
 by_cases hroom : n + 1 ≤ c
 ·obtain ⟨ys, hys, hown1⟩ := own_longer h (show n ≤ n + 1 by omega) hroom
  obtain ⟨w1, hr1, ho1, hg1⟩ := run_copy_in (P := Tryz.prog) w.drew base j.ty.S j.ty.S 3 j.ty.T j.ty.k j.ok.u j.ok.size g (n + 1) c _ hown1.drew ((i + 1) * j.ty.k) (n - i) (c - (i + 1)) ⟨g, i * j.ty.k, none⟩ (n + 1 - i) (c - i) (n - i) (xs.drop (i * j.ty.k))
   (by simp only [Nat.min_def]; split <;> omega) hd (own_src h.drew _) (by rw [hd]; omega) od
  have hv1 : At w1 vb cs j.ty.T := (hg1.block vb hv.lt (fun e => by simp at e; omega)).trans hv
  obtain ⟨w2, hr2, ho2, hg2⟩ := run_copy_in (P := Tryz.prog) w1 base j.ty.S j.ty.S 3 j.ty.T j.ty.k j.ok.u j.ok.size g (n + 1) c _ ho1 (i * j.ty.k) (n + 1 - i) (c - i) ⟨vb, 0, none⟩ 1 1 1 cs.toList
   (by simp only [Nat.min_def]; split <;> omega) (by omega) (src _ hv1) (by omega) h1
  have he := sp1 (xs.take (i * j.ty.k)) (xs.drop (i * j.ty.k)) ys cs.toList (by rw [hys, cl]; simp) (i * j.ty.k) ((i + 1) * j.ty.k) ht (by omega)
  rw [List.take_append_drop] at he
  rw [he] at ho2
  have R : Hid (InsG j base (some ⟨g, 0, none⟩) n i xs cs.toList w (.returned (.slice (some ⟨g, 0, none⟩) (n + 1) c)) w2) := ⟨_, _, rfl, ho2, (frame_some hg1).of_drew.trans (frame_some hg2), fun k hk => .inl hk⟩
  obtain ⟨cur, hcg, hcs, _⟩ := own_setRow w h
  have hov := fun o lb cb => j.over (w := w) (o := o) (lb := lb) (cb := cb) (n := cs.size) (m := cur.size) hvb (by unfold World.shape?; rw [show w.heap[vb]? = _ from hv]) (by unfold World.shape?; rw [hcg]) (by rw [hcs]; have := Nat.mul_pos (show 0 < c by omega) kk; omega) hv.frozen
  have hb2 : ¬ (c = i + 1) := by omega
  have w1' : IntKind.i64.wrap ((i : Int) + 1) = ((i + 1 : Nat) : Int) := by rw [IntKind.wrap_i64]; omega
  have w2' : IntKind.i64.wrap ((n : Int) + 1) = ((n + 1 : Nat) : Int) := by rw [IntKind.wrap_i64]; omega
  have n2 : ¬ ((c : Int) < n + 1) := by omega
  have n5 : i + 1 ≤ n + 1 := by omega
  replace hr1 := Lib.hid hr1
  replace hr2 := Lib.hid hr2
  clear h hx hown1 ho1 ho2 hd ht od src hv1 hv hg1 hg2 hcg hcs he hys xl ik ik1 nk1 cl h1 hc kk
  rcases j with _ | _ | _
  all_goals
   dsimp only [Sl.ty, Sl.ins, Sl.ovl] at hr1 hr2 hov ⊢
   first | go_enter Tryz.func139, Tryz.ntmps139 | go_enter Tryz.func366, Tryz.ntmps366 | go_enter Tryz.func282, Tryz.ntmps282
   go_wp2_with (simp only [hov])
   refine wp_region_noPanic ?_
   refine wp_region_until (S := fun _ => True) 9 (by kernel_rfl) ?_
   have hHeld : (fun _ : World => True) w.drew := trivial
   have hneF : Nonempty (Held fun _ => True) := ⟨⟨w, trivial⟩⟩
   refine runV [8] 1 hHeld ?_
   simp only [runL, runN, runOps_true, runOps_false, runOps_nil]
   repeat go_big_quiet_step (fail)
   refine wpQuiet_nil ?_
   refine readyU 8 fun K hK => ?_
   refine ite_of rfl ?_
   refine wp_copy_run _ _ _ _ _ rfl _ _ rfl rfl hr1.out ?_
   refine hK.out _ _ (fun _ => trivial) ?_
   clear hK K
   refine wpAnyU_done (by kernel_rfl) ?_ _
   refine NoPanic.normal ?_
   simp only [Act.put, List.setIfInBounds_toArray, List.set_cons_zero, List.set_cons_succ]
   clear hneF hHeld
   have hr2' := hr2.out
   go_wp2
   go_ret
   exact R.out
 ·obtain ⟨M, hM⟩ : ∃ M, n + 1 - i = M := ⟨_, rfl⟩
  have hiM : i + M = n + 1 := by omega
  have nM : (n - i) * j.ty.k + j.ty.k = M * j.ty.k := by rw [← Nat.succ_mul]; congr 1; omega
  have iM : (i + M) * j.ty.k = i * j.ty.k + M * j.ty.k := Nat.add_mul _ _ _
  obtain ⟨i0, hi0, hz, hs, hby⟩ := j.ok.get
  have hcn : c = n := by have := (own_nil h).1; omega
  obtain ⟨cap', w1, hr1, ho1, hg1⟩ := run_append_zeros_grow (P := Tryz.prog) w base j.ty.S 3 j.ty.S j.ty.T i0 _ j.ty.k j.ty.b .i64 .i64 j.ok.u (by kernel_rfl) hi0 hz hs hby j.ok.c kk (some ⟨g, 0, none⟩) i c M (xs.take (i * j.ty.k))
   (run_firstCells_some w.drew j.ty.k i ⟨g, 0, none⟩ i c _ ht fun q u hq => World.ownsRow.cells h.drew (g := g) rfl q u (by rw [List.getElem?_take] at hq; split at hq <;> simp_all)) ht (by omega) (by omega) (by have := Nat.mul_le_mul_left (i + M) j.ok.q.2; omega) (by simp only [maxLen]; omega) hb j.ok.b0
  obtain ⟨G, hG⟩ : ∃ G, w.heap.size = G := ⟨_, rfl⟩
  rw [hG] at hr1 ho1
  have hgG : g < G := by rw [← hG]; exact (own_blk h g (by simp [blk])).2
  have hvG : vb < G := by rw [← hG]; exact hv.lt
  have hv1 : At w1 vb cs j.ty.T := (hg1.block vb hv.lt (fun e => by cases e)).trans hv
  have h' := h.kept hg1 (.inr (by simp [Value.ownBlock]))
  have hcap : i + M ≤ cap' := (own_nil ho1).1
  obtain ⟨w2, hr2, ho2, hg2⟩ := run_copy_in (P := Tryz.prog) w1 base j.ty.S j.ty.S 3 j.ty.T j.ty.k j.ok.u j.ok.size G (i + M) cap' _ ho1 (i * j.ty.k) M (cap' - i) ⟨vb, 0, none⟩ 1 1 1 cs.toList
   (by simp only [Nat.min_def]; split <;> omega) (by omega) (src _ hv1) (by rw [cl]; have := Nat.le_mul_of_pos_left j.ty.k (show 0 < M by omega); omega) h1
  have h2 := h'.kept hg2 (.inr (by simp [Value.ownBlock]; omega))
  obtain ⟨w3, hr3, ho3, hg3⟩ := run_copy_in (P := Tryz.prog) w2.drew base j.ty.S j.ty.S 3 j.ty.T j.ty.k j.ok.u j.ok.size G (i + M) cap' _ ho2.drew ((i + 1) * j.ty.k) (i + M - (i + 1)) (cap' - (i + 1)) ⟨g, i * j.ty.k, none⟩ (n - i) (c - i) (n - i) (xs.drop (i * j.ty.k))
   (by simp only [Nat.min_def]; split <;> omega) hd (own_src h2.drew _) (by rw [hd]; omega) od
  rw [sp2 (xs.take (i * j.ty.k)) _ cs.toList (xs.drop (i * j.ty.k)) (by rw [Array.length_toList, zeroCells_length, hd, j.ok.c, cl]; omega) (i * j.ty.k) ((i + 1) * j.ty.k) ht (by omega)] at ho3
  have B1 : Below w.heap.size w w1 := (frame_none hg1).below (Below.refl _ _) (Nat.le_refl _) (fun k hk => by simp at hk)
  have B2 : Below w.heap.size w w2 := (frame_some hg2).below B1 B1.size (fun k hk => by simp at hk; omega)
  have R : Hid (InsG j base (some ⟨g, 0, none⟩) n i xs cs.toList w (.returned (.slice (some ⟨G, 0, none⟩) (i + M) cap')) w3) := ⟨_, cap', by rw [hiM], by rw [← hiM]; exact ho3, Frame.of_below ((frame_some hg3).of_drew.below B2 B2.size (fun k hk => by simp at hk; omega)), fun k hk => .inr (by simp only [blk, List.mem_singleton] at hk; omega)⟩
  have hM2 : (n : Int) + 1 - i = (M : Int) := by omega
  have n2 : (c : Int) < n + 1 := by omega
  have hb2 : ¬ (cap' = i + 1) := by omega
  have hb4 : ¬ (cap' = i) := by omega
  have w1' : IntKind.i64.wrap ((i : Int) + 1) = ((i + 1 : Nat) : Int) := by rw [IntKind.wrap_i64]; omega
  have m1 : i + 1 ≤ i + M := by omega
  have m2 : (1 : Int) ≤ M := by omega
  have m3 : 1 ≤ M := by omega
  have e1 : i + M - i = M := by omega
  replace hr1 := Lib.hid hr1
  clear h hx h' h2 ho1 ho2 ho3 hd ht od src hv1 hv hg1 hg2 hg3 B1 B2 xl ik ik1 nk1 cl h1 hc kk iM nM hG hM hiM hi0 hz hs hby hcn
  rcases j with _ | _ | _
  all_goals
   dsimp only [Sl.ty, Sl.ins] at hr1 hr2 hr3 ⊢
   first | go_enter Tryz.func139, Tryz.ntmps139 | go_enter Tryz.func366, Tryz.ntmps366 | go_enter Tryz.func282, Tryz.ntmps282
   go_wp2_with (at_builtin; refine Lib.wpList_append_run _ rfl _ _ _ _ rfl _ _ rfl rfl _ _ hr1.out ?_)
   clear hr1 hr2
   replace hr3 := Lib.hid hr3
   refine wp_region_noPanic ?_
   refine wp_region_until (S := fun _ => True) 9 (by kernel_rfl) ?_
   have hHeld : (fun _ : World => True) w2.drew := trivial
   have hneF : Nonempty (Held fun _ => True) := ⟨⟨w2, trivial⟩⟩
   refine runV [8] 1 hHeld ?_
   simp only [runL, runN, runOps_true, runOps_false, runOps_nil]
   repeat go_big_quiet_step (fail)
   refine wpQuiet_nil ?_
   refine readyU 8 fun K hK => ?_
   refine ite_of rfl ?_
   refine wp_copy_run _ _ _ _ _ rfl _ _ rfl rfl hr3.out ?_
   refine hK.out _ _ (fun _ => trivial) ?_
   clear hK K
   refine wpAnyU_done (by kernel_rfl) ?_ _
   refine NoPanic.normal ?_
   simp only [Act.put, List.setIfInBounds_toArray, List.set_cons_zero, List.set_cons_succ]
   clear hneF hHeld
   go_wp2
   go_ret
   exact R.out
theorem insert_g (h : w.ownsRow base j.ty.T j.ty.k (.slice A n c) n xs) (hx : ∀ u ∈ xs, u.oneCell' = true) (hl : n ≤ 1048576) (hi : i ≤ n) (hv : At w vb cs j.ty.T) (hc : cs.size = j.ty.k) (h1 : ∀ u ∈ cs.toList, u.oneCell' = true) (hvb : ∀ k ∈ blk A, k ≠ vb) (hb : base ≤ w.heap.size) :
  Calls Tryz.prog j.ins #[.slice A n c, .int .i64 i, .slice (some ⟨vb, 0, none⟩) 1 1] w (InsG j base A n i xs cs.toList w) := by
 by_cases e : i = n
 ·subst e
  exact insert_end h hl hv hc h1 hb
 ·obtain ⟨g, rfl⟩ := (own_nil h).2.2 (.inl (by omega))
  exact insert_in h hx hl (by omega) hv hc h1 (fun e => hvb g (by simp [blk]) e.symm) hb
theorem own_shorter {e : TypeId} {k N : Nat} (h : w.ownsRow base e k (.slice (some ⟨g, 0, none⟩) n c) n xs) (hN : N ≤ n) : w.ownsRow base e k (.slice (some ⟨g, 0, none⟩) N c) N (xs.take (N * k)) := by
 rcases h.2 with ⟨h, _⟩ | ⟨g', cap', cur, h, hbg, hg, hnc, hcm, hcs, htake⟩
 ·simp at h
 ·simp only [Value.slice.injEq, Option.some.injEq, Addr.mk.injEq, and_true, true_and] at h
  obtain ⟨rfl, rfl⟩ := h
  have hNk : N * k ≤ n * k := Nat.mul_le_mul_right _ hN
  have hnk : n * k ≤ c * k := Nat.mul_le_mul_right _ hnc
  have e : xs.take (N * k) = cur.toList.take (N * k) := by rw [← htake, List.take_take, Nat.min_eq_left hNk]
  rw [e]
  exact ⟨by rw [List.length_take, Array.length_toList]; omega, .inr ⟨g, c, cur, rfl, hbg, hg, by omega, hcm, hcs, rfl⟩⟩
def DelG (j : Sl) (base g c n i q : Nat) (xs : List Value) (w : World) (e : Ending) (w' : World) : Prop :=
 e = .returned (.slice (some ⟨g, 0, none⟩) (n - (q - i)) c) ∧ w'.ownsRow base j.ty.T j.ty.k (.slice (some ⟨g, 0, none⟩) (n - (q - i)) c) (n - (q - i)) (xs.take (i * j.ty.k) ++ xs.drop (q * j.ty.k)) ∧ Frame [g] w w'
set_option maxRecDepth 100000 in
set_option maxHeartbeats 4000000 in
theorem delete_g (h : w.ownsRow base j.ty.T j.ty.k (.slice (some ⟨g, 0, none⟩) n c) n xs) (hx : ∀ u ∈ xs, u.oneCell' = true) (hi : i < q) (hq : q ≤ n) (hl : n ≤ 1048576) :
  Calls Tryz.prog j.del #[.slice (some ⟨g, 0, none⟩) n c, .int .i64 i, .int .i64 q] w (DelG j base g c n i q xs w) := by
 have hnc := (own_nil h).1
 obtain ⟨D, hD⟩ : ∃ D, n - q = D := ⟨_, rfl⟩
 obtain ⟨m, hm⟩ : ∃ m, q - i = m := ⟨_, rfl⟩
 have hiK : i + D + m = n := by omega
 have xl := h.1
 have ek : n * j.ty.k = q * j.ty.k + D * j.ty.k := by rw [← Nat.add_mul]; congr 1; omega
 have hd : (xs.drop (q * j.ty.k)).length = D * j.ty.k := by rw [List.length_drop]; omega
 obtain ⟨i0, hi0, hz, hs, hby⟩ := j.ok.get
 obtain ⟨ad, cp, had, hsrc⟩ : ∃ (ad : Addr) (cp : Nat), ((c = q ∧ ad = ⟨g, 0, none⟩ ∧ cp = 0) ∨ (c ≠ q ∧ ad = ⟨g, q * j.ty.k, none⟩ ∧ cp = c - q)) ∧ ∀ e u, (xs.drop (q * j.ty.k))[e]? = some u → w.drew.cell? (ad.add e) = some u := by
  by_cases hc : c = q
  ·refine ⟨_, _, .inl ⟨hc, rfl, rfl⟩, fun e u hq => ?_⟩
   have h0 : xs.drop (q * j.ty.k) = [] := List.eq_nil_of_length_eq_zero (by rw [hd, show D = 0 by omega, Nat.zero_mul])
   rw [h0] at hq
   cases hq
  ·exact ⟨_, _, .inr ⟨hc, rfl, rfl⟩, own_src h.drew _⟩
 obtain ⟨w1, hr1, ho1, hg1⟩ := run_append_fits (P := Tryz.prog) w.drew base j.ty.S j.ty.S _ i0 j.ty.k j.ok.u hi0 hs g i c _ (own_shorter h (show i ≤ _ by omega)).drew ad D cp _ hd hsrc (fun u hu => hx u (List.mem_of_mem_drop hu)) (by omega)
 have hzv : ∀ w, (zeroValue j.ty.T).run Tryz.prog w = .ok j.ty.z w := fun w => by simp [zeroValue, typeInfo, hi0, hz]
 obtain ⟨w2, hr2, ho2, hg2⟩ := run_clear_spare (P := Tryz.prog) w1 base j.ty.S 0 j.ty.T j.ty.k _ j.ok.u hzv j.ok.c (fun u hu => by have := j.ok.o; rw [List.all_eq_true] at this; exact this u hu) g (i + D) c _ ho1 ((i + D) * j.ty.k) m (c - (i + D)) rfl (by omega) (by omega)
 have R : Hid (DelG j base g c n i q xs w (.returned (.slice (some ⟨g, 0, none⟩) (i + D) c)) w2) := ⟨by rw [hm, ← hiK, Nat.add_sub_cancel], by rw [hm, ← hiK, Nat.add_sub_cancel]; exact ho2, (frame_some hg1).of_drew.trans (frame_some hg2)⟩
 have b1 : (i : Int) ≤ (q : Int) := by omega
 have b2 : (q : Int) ≤ n := by omega
 have b3 : q ≤ n := by omega
 have b4 : i ≤ n := by omega
 have b5 : i ≤ c := by omega
 have b6 : ¬ ((i : Int) = (q : Int)) := by omega
 have b7 : ((i : Int) == (q : Int)) = false := beq_eq_false_iff_ne.2 b6
 have b8 : q ≤ c := by omega
 have n1 : n - (i + D) = m := by omega
 have n2 : i + D ≤ n := by omega
 have n3 : ¬ (c = i + D) := by omega
 replace hr1 := Lib.hid hr1
 replace hr2 := Lib.hid hr2
 clear h ho1 ho2 hd hsrc hg1 hg2 hi0 hz hs hby hzv ek xl hx hm hiK hq hi
 rcases j with _ | _ | _
 all_goals
  dsimp only [Sl.ty, Sl.del] at hr1 hr2 had ⊢
  first | go_enter Tryz.func162, Tryz.ntmps162 | go_enter Tryz.func364, Tryz.ntmps364 | go_enter Tryz.func283, Tryz.ntmps283
  go_wp2_with fail
  refine wp_region_noPanic ?_
  refine wp_region_until (S := fun _ => True) 8 (by kernel_rfl) ?_
  have hHeld : (fun _ : World => True) w.drew := trivial
  have hneF : Nonempty (Held fun _ => True) := ⟨⟨w, trivial⟩⟩
  rcases had with ⟨rfl, rfl, rfl⟩ | ⟨hc, rfl, rfl⟩
  all_goals
   refine runV [6] 2 hHeld ?_
   simp only [runL, runN, runOps_true, runOps_false, runOps_nil]
   repeat go_big_quiet_step (fail)
   refine wpQuiet_nil ?_
   refine readyU 6 fun K hK => ?_
   refine ite_of rfl ?_
   refine Lib.wp_append_run _ _ _ _ _ rfl _ _ rfl rfl _ _ hr1.out ?_
   refine hK.out _ _ (fun _ => trivial) ?_
   clear hK K hD
   simp only [Act.put, List.setIfInBounds_toArray, List.set_cons_zero, List.set_cons_succ]
   refine readyU 7 fun K hK => ?_
   go_simp
   go_wp2
   refine hK.out _ _ (fun _ => trivial) ?_
   clear hK K
   refine wpAnyU_done (by kernel_rfl) ?_ _
   refine NoPanic.normal ?_
   clear hneF hHeld
   have hr2' := hr2.out
   go_wp2
   go_ret
   exact R.out
def ClnG (j : Sl) (n : Nat) (xs : List Value) (w : World) (e : Ending) (w' : World) : Prop := ∃ A' c', e = .returned (.slice A' n c') ∧ w'.ownsRow w.heap.size j.ty.T j.ty.k (.slice A' n c') n xs ∧ Below w.heap.size w w'
set_option maxRecDepth 100000 in
set_option maxHeartbeats 4000000 in
theorem clone_g (h : w.ownsRow base j.ty.T j.ty.k (.slice A n c) n xs) (hx : ∀ u ∈ xs, u.oneCell' = true) (hl : n ≤ 1048576) : Calls Tryz.prog j.cln #[.slice A n c] w (ClnG j n xs w) := by
  have q : ∀ (w : World) (a : Option Addr) (n c n' c' : Nat), (binOp .eql j.ty.S (.slice a n c) (.slice none n' c')).run Tryz.prog w = .ok (.bool a.isNone) w := fun w a n c n' c' => Lib.run_eql_slice_nil w _ _ a n c n' c' j.ok.u
  have xl := h.1
  obtain ⟨_, hn, hg⟩ := own_nil h
  cases A with
  | none =>
    obtain ⟨rfl, rfl⟩ := hn rfl
    obtain rfl : xs = [] := List.eq_nil_of_length_eq_zero (by simpa using xl)
    have R : Hid (ClnG j 0 [] w (.returned (.slice none 0 0)) w) := ⟨none, 0, rfl, World.ownsRow_nil _ _ _ _, Below.refl _ _⟩
    clear h hx hn hg
    rcases j with _ | _ | _
    all_goals
      dsimp only [Sl.ty, Sl.cln] at q ⊢
      first | go_enter Tryz.func212, Tryz.ntmps212 | go_enter Tryz.func379, Tryz.ntmps379 | go_enter Tryz.func116, Tryz.ntmps116
      go_wp2
      go_ret
      exact R.out
  | some a =>
    obtain ⟨g, e⟩ := hg (.inr (by simp))
    cases e
    obtain ⟨A', c', w', hr, ho, hf, hk⟩ := run_app_g (base := w.heap.size) (cy := c) (m := n) (Y := some ⟨g, 0, none⟩) (w := w.alloc (.cells #[] j.ty.T)) j.ok (World.ownsRow_made w #[] 0 (Nat.le_refl _) (Nat.zero_le _) (by simp)) xl (fun q u hq => ⟨g, 0, rfl, by have := (own_blk h g (by simp [blk])).2; simp; omega, by have := World.ownsRow.cells (h.alloc (.cells #[] j.ty.T)) (g := g) rfl q u hq; rwa [Addr.add_lit] at this⟩) (by simp) hx (by omega) (by simp)
    rw [Nat.zero_add, List.nil_append] at *
    have R : Hid (ClnG j n xs w (.returned (.slice A' n c')) w') := ⟨A', c', rfl, ho, hf.below ((Below.refl _ w).alloc (Nat.le_refl _) _) (by simp) (fun k hk => by simp [blk] at hk; omega)⟩
    replace hr := Lib.hid hr
    clear ho hf hk h hx hn hg xl
    rcases j with _ | _ | _
    all_goals
      dsimp only [Sl.ty, Sl.cln] at q hr ⊢
      first | go_enter Tryz.func212, Tryz.ntmps212 | go_enter Tryz.func379, Tryz.ntmps379 | go_enter Tryz.func116, Tryz.ntmps116
      go_wp2_with (at_builtin; refine Lib.wpList_append_run _ rfl _ _ _ _ rfl _ _ rfl rfl _ _ hr.out ?_)
      go_ret
      exact R.out
end
end Go.Proofs.YtlbnlmhcpephbaaGreatDoor

namespace Go.Proofs.YtlbnlmhcpephbaaGreatDoor
open Go.RowKit
def RdP (w : World) (A : Option Addr) (ps : List (Int × Int)) : Prop := Rd w A (ps.flatMap fun x => [.int .i64 x.1, .int .u64 x.2])
theorem RdP.below {w w' : World} {A : Option Addr} {ps : List (Int × Int)} (h : RdP w A ps) (hb : Below w.heap.size w w') : RdP w' A ps := Rd.below h hb
theorem RdP.nil (w : World) (A : Option Addr) : RdP w A [] := Rd.nil w A
theorem RdP.at {w : World} {A : Option Addr} {ps : List (Int × Int)} (h : RdP w A ps) (j : Nat) (hj : j < ps.length) :
  ∃ g o, A = some ⟨g, o, none⟩ ∧ g < w.heap.size ∧ w.cell? ⟨g, o + j * 2, none⟩ = some (.int .i64 (ps[j]'hj).1) ∧ w.cell? ⟨g, o + j * 2 + 1, none⟩ = some (.int .u64 (ps[j]'hj).2) := by
 obtain ⟨q0, q1⟩ := flat2 (f := fun x : Int × Int => Value.int .i64 x.1) (g := fun x => Value.int .u64 x.2) ps j hj
 obtain ⟨g, o, rfl, hg, h0⟩ := h _ _ q0
 obtain ⟨g', o', e, _, h1⟩ := h _ _ q1
 simp only [Option.some.injEq, Addr.mk.injEq, and_true] at e
 obtain ⟨rfl, rfl⟩ := e
 exact ⟨g, o, rfl, hg, h0, by rw [← Nat.add_assoc] at h1; exact h1⟩
def okP (ps : List (Int × Int)) : Prop := ∀ x ∈ ps, (-9223372036854775808 ≤ x.1 ∧ x.1 ≤ 9223372036854775807) ∧ (0 ≤ x.2 ∧ x.2 < 18446744073709551616)
theorem okP.at {ps : List (Int × Int)} (h : okP ps) (j : Nat) (hj : j < ps.length) : (-9223372036854775808 ≤ (ps[j]'hj).1 ∧ (ps[j]'hj).1 ≤ 9223372036854775807) ∧ (0 ≤ (ps[j]'hj).2 ∧ (ps[j]'hj).2 < 18446744073709551616) := h _ (List.getElem_mem hj)
def sumP (ps : List (Int × Int)) : Int := (ps.map fun x => x.2).sum
theorem sumP_take (ps : List (Int × Int)) (k : Nat) (hk : k < ps.length) : sumP (ps.take (k + 1)) = sumP (ps.take k) + (ps[k]'hk).2 := by
 unfold sumP
 rw [List.take_succ_eq_append_getElem hk, List.map_append, List.sum_append]
 simp only [List.map_cons, List.map_nil, List.sum_cons, List.sum_nil, Int.add_zero]
theorem sumP_filter_take (ps : List (Int × Int)) (p : Int × Int → Bool) (k : Nat) (hk : k < ps.length) : sumP ((ps.take (k + 1)).filter p) = sumP ((ps.take k).filter p) + (if p (ps[k]'hk) then (ps[k]'hk).2 else 0) := by
 unfold sumP
 rw [List.take_succ_eq_append_getElem hk, List.filter_append, List.map_append, List.sum_append]
 by_cases h : p (ps[k]'hk) = true <;> simp only [List.filter_cons, h, List.filter_nil, if_true, Bool.false_eq_true, if_false, List.map_cons, List.map_nil, List.sum_cons, List.sum_nil, Int.add_zero]
def findP (t : Int) : Int → List (Int × Int) → Option Int
 | _, [] => none
 | s, p :: l => if 0 < t ∧ t ≤ (s + p.2) % 18446744073709551616 then some p.1 else findP t ((s + p.2) % 18446744073709551616) l
def optI (o : Option Int) : Value := .tuple #[.int .i64 (o.getD 0), .bool o.isSome]
end Go.Proofs.YtlbnlmhcpephbaaGreatDoor

namespace Go.Proofs.YtlbnlmhcpephbaaGreatDoor
open Go.RowKit
def flatP (ps : List (Int × Int)) : List Value := ps.flatMap fun x => [.int .i64 x.1, .int .u64 x.2]
theorem flatP_snoc (ps : List (Int × Int)) (p : Int × Int) : flatP (ps ++ [p]) = flatP ps ++ [.int .i64 p.1, .int .u64 p.2] := by simp [flatP]
def Own2 (base : Nat) (w : World) (A : Option Addr) (cap : Nat) (ps : List (Int × Int)) : Prop := w.ownsRow base 247 2 (.slice A ps.length cap) ps.length (flatP ps)
theorem Own2.nil (base : Nat) (w : World) : Own2 base w none 0 [] := World.ownsRow_nil w base _ 2
theorem Own2.below {base cap : Nat} {w w' : World} {A : Option Addr} {ps : List (Int × Int)} (h : Own2 base w A cap ps) (hb : Below w.heap.size w w') : Own2 base w' A cap ps := by
 obtain ⟨h1, h2⟩ := h
 refine ⟨h1, ?_⟩
 rcases h2 with h2 | ⟨g, c, cur, e, hg, hc, r⟩
 ·exact .inl h2
 ·exact .inr ⟨g, c, cur, e, hg, (hb.block g (Array.getElem?_eq_some_iff.1 hc).1).trans hc, r⟩
theorem Own2.rd {base cap : Nat} {w : World} {A : Option Addr} {ps : List (Int × Int)} (h : Own2 base w A cap ps) : RdP w A ps := by
 intro j u hj
 rcases h.2 with ⟨e, hn⟩ | ⟨g, c, cur, e, hg, hc, r⟩
 ·have : ps = [] := List.eq_nil_of_length_eq_zero hn
  subst this
  simp at hj
 ·injection e with e1 e2 e3
  subst e1
  have hl := (Array.getElem?_eq_some_iff.1 hc).1
  refine ⟨g, 0, rfl, hl, ?_⟩
  have := World.ownsRow.cells h (g := g) rfl j u hj
  rwa [Addr.add_lit] at this
theorem Own2.base_le {base cap : Nat} {w : World} {A : Option Addr} {ps : List (Int × Int)} (h : Own2 base w A cap ps) : ∀ g, A = some g → base ≤ g.block ∧ g.block < w.heap.size := by
 rintro g rfl
 exact World.ownsRow.lt h g.block rfl
theorem Tryz.underlyingRow : Tryz.prog.underlying 212 = some (.slice 247) := by kernel_rfl
theorem Tryz.infoPair : (Tryz.prog.info? 247).map (fun i => (i.zero, i.size, i.bytes)) = some (some (.agg #[.int .i64 0, .int .u64 0]), 2, 16) := by kernel_rfl
theorem wpList_append_pair {ops : Array Oper} {rest : List Oper} {o : Oper} {a : Act} {Q : Exit → Act → World → Prop} {w : World} (hgd : o.guard = none) (s x : Operand)
    (ho : o.op = .call { callee := .builtin .append, args := #[s, x], argTypes := #[212, 212] })
    (base : Nat) (A : Option Addr) (cap n : Nat) (ps : List (Int × Int)) (hs : a.eval s = .slice A n cap) (hn : ps.length = n) (hown : Own2 base w A cap ps)
    (ad : Addr) (c : Nat) (p : Int × Int) (hx : a.eval x = .slice (some ad) 1 c) (h0 : w.cell? (ad.add 0) = some (.int .i64 p.1)) (h1 : w.cell? (ad.add 1) = some (.int .u64 p.2))
    (hlen : n ≤ 1099511627776) (W0 : World) (hB : Below base W0 w) (hbase : base ≤ w.heap.size)
    (h : ∀ A' cap' w', Hid (Own2 base w' A' cap' (ps ++ [p])) → Below base W0 w' → wpList Tryz.prog ops Q rest (a.put o.dst (.slice A' (n + 1) cap')) w') :
    wpList Tryz.prog ops Q (o :: rest) a w := by
  subst hn
  obtain ⟨i, hi, hz, hsz, hby⟩ : ∃ i, Tryz.prog.info? 247 = some i ∧ i.zero = some (.agg #[.int .i64 0, .int .u64 0]) ∧ i.size = 2 ∧ i.bytes = 16 := by
    have := Tryz.infoPair
    cases hh : Tryz.prog.info? 247 with
    | none => rw [hh] at this; cases this
    | some i =>
      rw [hh] at this
      simp only [Option.map_some, Option.some.injEq, Prod.mk.injEq] at this
      exact ⟨i, rfl, this.1, this.2.1, this.2.2⟩
  refine wpList_append_own_at w hgd s x _ ho base _ i _ 2 16 Tryz.underlyingRow hi hz hsz hby rfl (by decide) _ ps.length (flatP ps) hs hown ad 1 c [.int .i64 p.1, .int .u64 p.2] hx rfl ?_ ?_ (by simp only [maxLen]; omega) (by omega) hbase ?_
  · intro j u hj
    match j, hj with
    | 0, hj => simp only [List.getElem?_cons_zero, Option.some.injEq] at hj; subst hj; exact h0
    | 1, hj => simp only [List.getElem?_cons_succ, List.getElem?_cons_zero, Option.some.injEq] at hj; subst hj; exact h1
  · intro u hu
    simp only [List.mem_cons, List.not_mem_nil, or_false] at hu
    rcases hu with rfl | rfl <;> rfl
  · intro v' w' hown' hg _ _
    have hB' : Below base W0 w' := hB.grown hg hbase (fun k hk => (World.ownsRow.lt hown k hk).1)
    rw [← flatP_snoc] at hown'
    have hl : (ps ++ [p]).length = ps.length + 1 := by simp
    rcases hown'.2 with ⟨e, hn⟩ | ⟨g, cp, cur, rfl, r⟩
    · omega
    · exact h _ _ _ (by show Own2 _ _ _ _ _; unfold Own2; rw [hl]; exact hown') hB'
theorem new_two0 {w : World} {b : Nat} {u0 u1 : Value} {T : TypeId} (hb : b = w.heap.size) : (w.alloc (.cells #[u0, u1] T)).cell? ((⟨b, 0, none⟩ : Addr).add 0) = some u0 := by
 rw [Addr.add_lit]; exact (At.new' w #[u0, u1] T hb).cell (i := 0) rfl
theorem new_two1 {w : World} {b : Nat} {u0 u1 : Value} {T : TypeId} (hb : b = w.heap.size) : (w.alloc (.cells #[u0, u1] T)).cell? ((⟨b, 0, none⟩ : Addr).add 1) = some u1 := by
 rw [Addr.add_lit]; exact (At.new' w #[u0, u1] T hb).cell (i := 1) rfl
def rowAdd (ps : List (Int × Int)) (q c : Int) : List (Int × Int) :=
 ps.filter (fun x => decide (x.1 < q)) ++ (if 0 < (sumP (ps.filter fun x => decide (x.1 = q)) + c) % 18446744073709551616 then [(q, (sumP (ps.filter fun x => decide (x.1 = q)) + c) % 18446744073709551616)] else []) ++ ps.filter (fun x => decide (q < x.1))
end Go.Proofs.YtlbnlmhcpephbaaGreatDoor

namespace Go.Proofs.YtlbnlmhcpephbaaGreatDoor
def cnt (ps : List (Int × Int)) (i : Int) : Int := sumP (ps.filter fun x => decide (x.1 = i))
structure Gd (ps : List (Int × Int)) : Prop where
 srt : ps.Pairwise fun x y => x.1 < y.1
 pos : ∀ x ∈ ps, 0 < x.2
theorem sumP_nil : sumP [] = 0 := rfl
theorem sumP_cons (x : Int × Int) (ps : List (Int × Int)) : sumP (x :: ps) = x.2 + sumP ps := by simp [sumP]
theorem sumP_append (ps qs : List (Int × Int)) : sumP (ps ++ qs) = sumP ps + sumP qs := by simp [sumP]
theorem cnt_nil (i : Int) : cnt [] i = 0 := rfl
theorem cnt_cons (x : Int × Int) (ps : List (Int × Int)) (i : Int) : cnt (x :: ps) i = (if x.1 = i then x.2 else 0) + cnt ps i := by
 unfold cnt
 by_cases h : x.1 = i
 ·simp [h, sumP_cons]
 ·simp [h]
theorem cnt_append (ps qs : List (Int × Int)) (i : Int) : cnt (ps ++ qs) i = cnt ps i + cnt qs i := by simp [cnt, sumP_append]
theorem cnt_nonneg {ps : List (Int × Int)} (h : ∀ x ∈ ps, 0 < x.2) (i : Int) : 0 ≤ cnt ps i := by
  induction ps with
  | nil => exact Int.le_refl _
  | cons x ps ih =>
    rw [cnt_cons]
    have := ih fun y hy => h y (by simp [hy])
    have := h x (by simp)
    split <;> omega
theorem cnt_le_sumP {ps : List (Int × Int)} (h : ∀ x ∈ ps, 0 < x.2) (i : Int) : cnt ps i ≤ sumP ps := by
  induction ps with
  | nil => exact Int.le_refl _
  | cons x ps ih =>
    rw [cnt_cons, sumP_cons]
    have := ih fun y hy => h y (by simp [hy])
    have := h x (by simp)
    split <;> omega
theorem sumP_nonneg {ps : List (Int × Int)} (h : ∀ x ∈ ps, 0 < x.2) : 0 ≤ sumP ps := Int.le_trans (cnt_nonneg h 0) (cnt_le_sumP h 0)
theorem cnt_zero {ps : List (Int × Int)} {i : Int} (h : ∀ x ∈ ps, x.1 ≠ i) : cnt ps i = 0 := by
  induction ps with
  | nil => rfl
  | cons x ps ih =>
    rw [cnt_cons, if_neg (h x (by simp)), ih fun y hy => h y (by simp [hy])]
    rfl
theorem cnt_pos_mem {ps : List (Int × Int)} {i : Int} (h : 0 < cnt ps i) : ∃ x ∈ ps, x.1 = i := by
  induction ps with
  | nil => rw [cnt_nil] at h; omega
  | cons x ps ih =>
    by_cases hx : x.1 = i
    · exact ⟨x, by simp, hx⟩
    · rw [cnt_cons, if_neg hx] at h
      obtain ⟨y, hy, e⟩ := ih (by omega)
      exact ⟨y, by simp [hy], e⟩
theorem Gd.tail {x : Int × Int} {ps : List (Int × Int)} (h : Gd (x :: ps)) : Gd ps := ⟨h.srt.of_cons, fun y hy => h.pos y (by simp [hy])⟩
theorem Gd.head {x : Int × Int} {ps : List (Int × Int)} (h : Gd (x :: ps)) : ∀ y ∈ ps, x.1 < y.1 := (List.pairwise_cons.1 h.srt).1
theorem Gd.nil : Gd [] := ⟨List.Pairwise.nil, by simp⟩
theorem sumP_split (ps : List (Int × Int)) (q : Int) : sumP ps = sumP (ps.filter fun x => decide (x.1 < q)) + cnt ps q + sumP (ps.filter fun x => decide (q < x.1)) := by
  induction ps with
  | nil => rfl
  | cons x ps ih =>
    rw [sumP_cons, cnt_cons, ih]
    rcases Int.lt_trichotomy x.1 q with h | h | h
    · simp [List.filter_cons, h, show ¬ x.1 = q by omega, show ¬ q < x.1 by omega, sumP_cons]; omega
    · simp [List.filter_cons, h, sumP_cons]; omega
    · simp [List.filter_cons, h, show ¬ x.1 = q by omega, show ¬ x.1 < q by omega, sumP_cons]; omega
theorem rowAdd_eq {ps : List (Int × Int)} {q c : Int} (h : Gd ps) (hc : 0 < c) (hs : cnt ps q + c < 18446744073709551616) :
  rowAdd ps q c = ps.filter (fun x => decide (x.1 < q)) ++ [(q, cnt ps q + c)] ++ ps.filter (fun x => decide (q < x.1)) := by
 have h0 := cnt_nonneg h.pos q
 unfold rowAdd
 rw [show sumP (ps.filter fun x => decide (x.1 = q)) = cnt ps q from rfl, Int.emod_eq_of_lt (by omega) hs, if_pos (by omega)]
theorem sumP_rowAdd {ps : List (Int × Int)} {q c : Int} (h : Gd ps) (hc : 0 < c) (hs : cnt ps q + c < 18446744073709551616) : sumP (rowAdd ps q c) = sumP ps + c := by
 rw [rowAdd_eq h hc hs, sumP_append, sumP_append, sumP_cons, sumP_nil]
 have := sumP_split ps q
 dsimp only
 omega
theorem Gd.rowAdd {ps : List (Int × Int)} {q c : Int} (h : Gd ps) (hc : 0 < c) (hs : cnt ps q + c < 18446744073709551616) : Gd (rowAdd ps q c) := by
 have h0 := cnt_nonneg h.pos q
 rw [rowAdd_eq h hc hs]
 refine ⟨?_, ?_⟩
 ·rw [List.pairwise_append, List.pairwise_append]
  refine ⟨⟨h.srt.filter _, by simp, ?_⟩, h.srt.filter _, ?_⟩
  ·intro x hx y hy
   simp only [List.mem_filter, decide_eq_true_eq, List.mem_singleton] at hx hy
   subst hy
   exact hx.2
  ·intro x hx y hy
   simp only [List.mem_append, List.mem_filter, decide_eq_true_eq, List.mem_singleton] at hx hy
   rcases hx with hx | rfl
   ·have := hx.2; have := hy.2; omega
   ·exact hy.2
 ·intro x hx
  simp only [List.mem_append, List.mem_filter, List.mem_singleton] at hx
  rcases hx with (hx | rfl) | hx
  ·exact h.pos x hx.1
  ·show 0 < cnt ps q + c; omega
  ·exact h.pos x hx.1
theorem okP_rowAdd {ps : List (Int × Int)} {q c : Int} (h : okP ps) (hq : -9223372036854775808 ≤ q ∧ q ≤ 9223372036854775807) : okP (rowAdd ps q c) := by
 intro x hx
 unfold rowAdd at hx
 simp only [List.mem_append, List.mem_filter] at hx
 rcases hx with (hx | hx) | hx
 ·exact h x hx.1
 ·split at hx
  ·simp only [List.mem_singleton] at hx
   subst hx
   exact ⟨hq, by dsimp only; omega⟩
  ·simp at hx
 ·exact h x hx.1
def span (ps : List (Int × Int)) : Int := (ps.getD (ps.length - 1) (0, 0)).1 - (ps.getD 0 (0, 0)).1
theorem Gd.le {ps : List (Int × Int)} (h : Gd ps) {i j : Nat} (hij : i ≤ j) (hj : j < ps.length) : (ps.getD i (0, 0)).1 ≤ (ps.getD j (0, 0)).1 := by
 rw [List.getD_eq_getElem?_getD, List.getD_eq_getElem?_getD, List.getElem?_eq_getElem (by omega), List.getElem?_eq_getElem hj]
 by_cases e : i = j
 ·subst e; exact Int.le_refl _
 ·exact Int.le_of_lt (List.pairwise_iff_getElem.1 h.srt i j (by omega) hj (by omega))
theorem getD_mem' {ps : List (Int × Int)} {i : Nat} (hi : i < ps.length) : ps.getD i (0, 0) ∈ ps := by
 rw [List.getD_eq_getElem?_getD, List.getElem?_eq_getElem hi]
 exact List.getElem_mem hi
theorem findP_zero (ps : List (Int × Int)) : ∀ s, findP 0 s ps = none := by
 induction ps with
 | nil => intro s; rfl
 | cons x ps ih => intro s; rw [findP, if_neg (by omega)]; exact ih _
def upto (ps : List (Int × Int)) (q : Int) : Int := sumP (ps.filter fun x => decide (x.1 ≤ q))
end Go.Proofs.YtlbnlmhcpephbaaGreatDoor

namespace Go.Proofs.YtlbnlmhcpephbaaGreatDoor
open Go.RowKit
def Sl.bsf : Sl → FuncId
 | .p => 137
 | .l => 365
 | .t => 294
def Sl.vl : Sl → (Nat → Value) → Value
 | .p, c => .agg #[c 0, c 1]
 | _, c => .agg #[c 0, c 1, c 2]
structure Pos (sg : Nat → Int) (n k : Nat) : Prop where
 le : k ≤ n
 lo : ∀ i, i < k → sg i < 0
 hi : ∀ i, k ≤ i → i < n → 0 ≤ sg i
noncomputable def kof (sg : Nat → Int) (n : Nat) : Nat := mu fun k => n ≤ k ∨ 0 ≤ sg k
theorem kof_pos {sg : Nat → Int} {n : Nat} (hm : ∀ x y, x ≤ y → y < n → sg y < 0 → sg x < 0) : Pos sg n (kof sg n) := by
 have s := mu_spec (p := fun k => n ≤ k ∨ 0 ≤ sg k) ⟨n, .inl (Nat.le_refl _)⟩
 refine ⟨mu_le (.inl (Nat.le_refl _)), fun i hi => ?_, fun i h1 h2 => ?_⟩
 ·rcases Int.lt_or_le (sg i) 0 with h | h
  ·exact h
  ·have := mu_le (p := fun k => n ≤ k ∨ 0 ≤ sg k) (n := i) (.inr h); unfold kof at hi; omega
 ·rcases Int.lt_or_le (sg i) 0 with h | h
  ·have := hm _ i h1 h2 h; unfold kof at h1 this; rcases s with s | s <;> omega
  ·exact h
theorem Pos.uniq {sg : Nat → Int} {n k j : Nat} (h : Pos sg n k) (h' : Pos sg n j) : k = j := by
 have := h.le
 have := h'.le
 rcases Nat.lt_trichotomy k j with e | e | e
 ·have := h'.lo k e; have := h.hi k (Nat.le_refl _) (by omega); omega
 ·exact e
 ·have := h.lo j e; have := h'.hi j (Nat.le_refl _) (by omega); omega
noncomputable def bsV (sg : Nat → Int) (n : Nat) : Value := .tuple #[.int .i64 (kof sg n), .bool (decide (kof sg n < n ∧ sg (kof sg n) = 0))]
def BfG (sg : Nat → Int) (n : Nat) (w : World) (e : Ending) (w' : World) : Prop := (∃ k : Nat, ∃ f : Bool, e = .returned (.tuple #[.int .i64 k, .bool f]) ∧ Pos sg n k ∧ (f = true ↔ k < n ∧ sg k = 0)) ∧ Below w.heap.size w w'
theorem BfG.det {sg : Nat → Int} {n : Nat} {w w' : World} {e : Ending} (hm : ∀ x y, x ≤ y → y < n → sg y < 0 → sg x < 0) (h : BfG sg n w e w') : e = .returned (bsV sg n) ∧ Below w.heap.size w w' := by
 obtain ⟨⟨k, f, rfl, p, hf⟩, hb⟩ := h
 obtain rfl := p.uniq (kof_pos hm)
 exact ⟨by unfold bsV; rw [show f = decide (kof sg n < n ∧ sg (kof sg n) = 0) by rw [Bool.eq_iff_iff]; simpa using hf], hb⟩
set_option maxRecDepth 100000 in
set_option maxHeartbeats 4000000 in
theorem bsf_g {j : Sl} {f : FuncId} {q : Int} {sg : Nat → Int} {cs : Nat → Nat → Value} {A : Option Addr} {c n : Nat} {w : World} (hj : j ≠ .l) (he : ∀ args w, (callFunc f args).run Tryz.prog w = .ok (.enter f args) w)
  (hR : ∀ i, i < n → ∃ g o, A = some ⟨g, o, none⟩ ∧ g < w.heap.size ∧ ∀ d, d < j.ty.k → w.cell? ⟨g, o + i * j.ty.k + d, none⟩ = some (cs i d))
  (hf : ∀ i W, i < n → Calls Tryz.prog f #[j.vl (cs i), .int .i64 q] W fun e w' => e = .returned (.int .i64 (sg i)) ∧ Below W.heap.size W w')
  (hm : ∀ x y, x ≤ y → y < n → sg y < 0 → sg x < 0) (hl : n ≤ 1099511627776) : Calls Tryz.prog j.bsf #[.slice A n c, .int .i64 q, .func (.func f) #[] #[]] w (BfG sg n w) := by
 replace hR := Lib.hid hR
 replace hf := Lib.hid hf
 replace hm := Lib.hid hm
 have L0 : Hid (∀ x, x < 0 → sg x < 0) := fun x hx => by omega
 have H0 : Hid (∀ x, n ≤ x → x < n → 0 ≤ sg x) := fun x h1 h2 => by omega
 obtain ⟨n', hn⟩ : ∃ n', n = n' := ⟨_, rfl⟩
 subst hn
 rcases j with _ | _ | _
 case l => exact absurd rfl hj
 all_goals
  clear hj
  dsimp only [Sl.ty, Sl.bsf, Sl.vl] at hR hf ⊢
  first | go_enter Tryz.func137, Tryz.ntmps137 | go_enter Tryz.func294, Tryz.ntmps294
  go_wp2
  go_loopw [9, 10] (fun I J wr => ∃ a b : Nat, a ≤ b ∧ b ≤ n ∧ I = .int .i64 a ∧ J = .int .i64 b ∧ Hid (∀ x, x < a → sg x < 0) ∧ Hid (∀ x, b ≤ x → x < n → 0 ≤ sg x) ∧ Below w.heap.size w wr) (fun I J _ => (intOf J).toNat - (intOf I).toNat)
  case atStart => exact ⟨0, n, by omega, by omega, rfl, rfl, L0, H0, Below.refl _ _⟩
  case round =>
   clear L0 H0
   obtain ⟨a, b, hab, hbn, rfl, rfl, L, H, hB⟩ := hrel
   by_cases hlt : a < b
   ·have hlt' : (a : Int) < b := by omega
    obtain ⟨m, hm'⟩ : ∃ m, (a + b) / 2 = m := ⟨_, rfl⟩
    obtain ⟨g, o, rfl, hg, hc⟩ := hR.out m (by omega)
    have v1 : ((a : Int) + b) / 2 = (m : Int) := by omega
    have hmb : a ≤ m ∧ m < b := by omega
    have c0 := cellB hB hg (hc 0 (by decide))
    have c1 := cellB hB hg (hc 1 (by decide))
    try have c2 := cellB hB hg (hc 2 (by decide))
    rw [Nat.add_zero] at c0
    have F := Lib.hid fun W => hf.out m W (by omega)
    have k0 : (0 : Int) ≤ m := by omega
    have k1 : (m : Int) < n := by omega
    have v2 : IntKind.i64.wrap ((m : Int) + 1) = m + 1 := by simp only [IntKind.wrap_i64]; omega
    clear hm' hc
    go_wp2_with fail
    refine (F.out _).mono ?_
    rintro e w1 ⟨rfl, hb⟩
    replace hB := keep1 hB hb
    by_cases hx : sg m < 0
    ·have L2 : Hid (∀ x, x < m + 1 → sg x < 0) := fun x hx' => hm.out x m (by omega) (by omega) hx
     obtain ⟨s, hs⟩ : ∃ s, sg m = s := ⟨_, rfl⟩
     rw [hs] at hx ⊢
     clear L hb hs F
     go_wp2
     go_roundw
     case rel => exact ⟨m + 1, b, by omega, hbn, by go_num, rfl, L2, H, hB⟩
     case measure => simp [intOf]; omega
    ·have H2 : Hid (∀ x, m ≤ x → x < n → 0 ≤ sg x) := fun x h1 h2 => Int.not_lt.1 fun h => hx (hm.out m x h1 h2 h)
     obtain ⟨s, hs⟩ : ∃ s, sg m = s := ⟨_, rfl⟩
     rw [hs] at hx ⊢
     clear H hb hs F
     go_wp2
     go_roundw
     case rel => exact ⟨a, m, by omega, by omega, rfl, rfl, L, H2, hB⟩
     case measure => simp [intOf]; omega
   ·obtain rfl : a = b := by omega
    have P : Hid (Pos sg n a) := ⟨by omega, L.out, H.out⟩
    clear L H hm
    by_cases hin : a < n
    ·obtain ⟨g, o, rfl, hg, hc⟩ := hR.out a hin
     have c0 := cellB hB hg (hc 0 (by decide))
     have c1 := cellB hB hg (hc 1 (by decide))
     try have c2 := cellB hB hg (hc 2 (by decide))
     rw [Nat.add_zero] at c0
     have F := Lib.hid fun W => hf.out a W hin
     have k0 : (0 : Int) ≤ a := by omega
     have k1 : (a : Int) < n := by omega
     clear hc
     go_wp2_with fail
     refine (F.out _).mono ?_
     rintro e w1 ⟨rfl, hb⟩
     replace hB := keep1 hB hb
     have R : Hid (BfG sg n w (.returned (.tuple #[.int .i64 a, .bool (sg a == 0)])) w1) := ⟨⟨a, _, rfl, P.out, by simp [hin]⟩, hB⟩
     obtain ⟨s, hs⟩ : ∃ s, sg a = s := ⟨_, rfl⟩
     rw [hs] at R ⊢
     clear hb hs F
     cases e : s == 0 <;> rw [e] at R
     all_goals
      go_wp2
      go_ret2
      exact R.out
    ·obtain rfl : a = n := by omega
     have R : Hid (BfG sg a w (.returned (.tuple #[.int .i64 a, .bool false])) wr) := ⟨⟨a, false, rfl, P.out, by simp⟩, hB⟩
     have hin' : ¬ (a : Int) < a := by omega
     go_wp2
     go_ret2
     exact R.out
end Go.Proofs.YtlbnlmhcpephbaaGreatDoor

namespace Go.Proofs.YtlbnlmhcpephbaaGreatDoor
open Go.RowKit
theorem RdP.at' {w : World} {A : Option Addr} {ps : List (Int × Int)} (h : RdP w A ps) (j : Nat) (hj : j < ps.length) :
  ∃ g o, A = some ⟨g, o, none⟩ ∧ g < w.heap.size ∧ w.cell? ⟨g, o + j * 2, none⟩ = some (.int .i64 (ps.getD j (0, 0)).1) ∧ w.cell? ⟨g, o + j * 2 + 1, none⟩ = some (.int .u64 (ps.getD j (0, 0)).2) := by
 have := h.at j hj
 rw [List.getD_eq_getElem?_getD, List.getElem?_eq_getElem hj]
 exact this
def byV (x q : Int) : Int := if x < q then -1 else if q < x then 1 else 0
theorem by_any (x y q : Int) (w : World) : Calls Tryz.prog 138 #[.agg #[.int .i64 x, .int .u64 y], .int .i64 q] w fun e w' => e = .returned (.int .i64 (byV x q)) ∧ Below w.heap.size w w' := by
 obtain ⟨v, hv, h⟩ : ∃ v, byV x q = v ∧ (x < q ∧ v = -1 ∨ ¬ x < q ∧ (q < x ∧ v = 1 ∨ ¬ q < x ∧ v = 0)) := ⟨_, rfl, by unfold byV; split <;> simp_all <;> omega⟩
 rw [hv]
 clear hv
 rcases h with ⟨h1, rfl⟩ | ⟨h1, ⟨h2, rfl⟩ | ⟨h2, rfl⟩⟩
 all_goals
  go_enter Tryz.func138, Tryz.ntmps138
  go_wp2
  go_ret
  exact ⟨rfl, (by repeat (first | with_reducible assumption | with_reducible exact Below.refl _ _ | with_reducible refine Below.drew ?_ | with_reducible refine Below.drewN ?_ _ | with_reducible refine Below.setCell ?_ (by first | omega | (simp; done) | (simp; omega)) _ | with_reducible refine Below.alloc ?_ (by first | omega | (simp; done) | (simp; omega) | (simp [World.setCell]; omega)) _))⟩
structure Posn (ps : List (Int × Int)) (q : Int) (k : Nat) : Prop where
 le : k ≤ ps.length
 under : ∀ j, j < k → (ps.getD j (0, 0)).1 < q
 over : ∀ j, k ≤ j → j < ps.length → q ≤ (ps.getD j (0, 0)).1
def BfR (ps : List (Int × Int)) (q : Int) (e : Ending) : Prop := ∃ k : Nat, ∃ f : Bool, e = .returned (.tuple #[.int .i64 k, .bool f]) ∧ Posn ps q k ∧ (f = true ↔ k < ps.length ∧ (ps.getD k (0, 0)).1 = q)
theorem byV_cases (x q : Int) : (byV x q < 0 ↔ x < q) ∧ (byV x q = 0 ↔ x = q) := by unfold byV; split <;> (try split) <;> omega
theorem rfind06_any (A : Option Addr) (c len : Nat) (ps : List (Int × Int)) (q : Int) (w : World) (hlen : ps.length = len) (h : RdP w A ps) (hg : Gd ps) (hl : len ≤ 1099511627776) :
  Calls Tryz.prog 126 #[.slice A len c, .int .i64 q] w fun e w' => BfR ps q e ∧ Below w.heap.size w w' := by
 subst hlen
 have HC := Lib.hid (bsf_g (j := .p) (f := 138) (q := q) (sg := fun i => byV (ps.getD i (0, 0)).1 q) (cs := fun i d => if d = 0 then .int .i64 (ps.getD i (0, 0)).1 else .int .u64 (ps.getD i (0, 0)).2) (c := c) (fun h => by cases h) (fun _ _ => by kernel_rfl) (fun i hi => by
  obtain ⟨g, o, e, hg, c1, c2⟩ := h.at' i hi
  exact ⟨g, o, e, hg, fun d hd => by match d, hd with | 0, _ => exact c1 | 1, _ => exact c2⟩) (fun i W _ => by_any _ _ q W) (fun x y hx hy hs => (byV_cases _ _).1.2 (by have := hg.le hx hy; have := (byV_cases _ _).1.1 hs; omega)) hl)
 dsimp only [Sl.bsf] at HC
 have P : Hid (∀ (k : Nat) (f : Bool), Pos (fun i => byV (ps.getD i (0, 0)).1 q) ps.length k → (f = true ↔ k < ps.length ∧ byV (ps.getD k (0, 0)).1 q = 0) → BfR ps q (.returned (.tuple #[.int .i64 k, .bool f]))) := fun k f p hf => ⟨k, f, rfl, ⟨p.le, fun j hj => (byV_cases _ _).1.1 (p.lo j hj), fun j h1 h2 => Int.not_lt.1 fun h => by have := (byV_cases _ _).1.2 h; have := p.hi j h1 h2; omega⟩, hf.trans (and_congr_right fun _ => (byV_cases _ _).2)⟩
 generalize ps.length = n at *
 clear h hg
 go_enter Tryz.func126, Tryz.ntmps126
 go_wp2_with fail
 refine HC.out.mono ?_
 rintro e w1 ⟨⟨k, f, rfl, hp, hf⟩, hB⟩
 have R := Lib.hid (P.out k f hp hf)
 clear HC hp hf P
 go_wp2
 go_ret2
 exact ⟨R.out, hB⟩
end Go.Proofs.YtlbnlmhcpephbaaGreatDoor
