/- Texts of this claim, joined, indents halved: EGr3, EGr4, ECl2, ELs1, ELs2, EKo. -/
import Derived.Test.YtlbnlmhcpephbaaGreatDoorProg
import Derived.Test.YtlbnlmhcpephbaaGreatDoorKe19
namespace Go.Proofs.YtlbnlmhcpephbaaGreatDoor
open Go.RowKit
def mmF : Bool → FuncId
 | true => 274
 | false => 275
def MmI (s : Bool) (xs : List Int) (a : Int) : Prop := a ∈ xs ∧ ∀ y ∈ xs, if s then a ≤ y else y ≤ a
section
variable {w w' W1 : World} {b c k m rc wc : Nat} {u v T N n lo hi x a : Int} {ts us : List Tu} {ws xs : List Int} {A R W : Option Addr} {S S2 : List Nat} {s : Bool}
theorem MmI.step (h : MmI s (xs.take k) a) (hk : k < xs.length) : MmI s (xs.take (k + 1)) (if s then min a xs[k] else max a xs[k]) := by
 rw [List.take_succ_eq_append_getElem hk]
 obtain ⟨p, q⟩ := h
 generalize xs[k] = z at *
 cases s
 all_goals
  refine ⟨?_, fun y hy => ?_⟩
  all_goals simp only [reduceIte, Bool.false_eq_true] at *
  ·simp only [List.mem_append, List.mem_singleton]
   first | (by_cases h : a ≤ z; exact .inl (by rwa [Int.min_eq_left h]); exact .inr (Int.min_eq_right (by omega))) | (by_cases h : a ≤ z; exact .inr (Int.max_eq_right h); exact .inl (by rwa [Int.max_eq_left (by omega)]))
  ·simp only [List.mem_append, List.mem_singleton] at hy
   rcases hy with hy | rfl
   ·have := q y hy; omega
   ·omega
set_option maxRecDepth 100000 in
set_option maxHeartbeats 1000000 in
theorem mm_any (h : RdW w A xs) (hm : xs.length = m) (h0 : 0 < m) (hl : m ≤ 8100) : Calls Tryz.prog (mmF s) #[.slice A m c] w fun e w' => (∃ a, e = .returned (.int .i64 a) ∧ MmI s xs a) ∧ Below w.heap.size w w' := by
 have H := Lib.hid (And.intro h hm)
 obtain ⟨g, o, rfl, hg, c0⟩ := h.at 0 (by omega)
 rw [Nat.add_zero] at c0
 have J0 : Hid (MmI s (xs.take 1) (xs[0]'(by omega))) := by
  rw [List.take_succ_eq_append_getElem (by omega : 0 < xs.length)]
  exact ⟨by simp, fun y hy => by simp at hy; subst hy; split <;> exact Int.le_refl _⟩
 generalize xs[0]'(by omega) = x0 at *
 have k0 : (0 : Int) < m := by omega
 have d0 : decide (m < 1) = false := decide_eq_false (by omega)
 clear h hm
 cases s
 all_goals
  dsimp only [mmF]
  first | go_enter Tryz.func274, Tryz.ntmps274 | go_enter Tryz.func275, Tryz.ntmps275
  go_wp2
  go_loopw [3, 4] (fun a i wr => ∃ (k : Nat) (x : Int), 1 ≤ k ∧ k ≤ m ∧ i = .int .i64 k ∧ a = .int .i64 x ∧ Hid (MmI _ (xs.take k) x) ∧ Below w.heap.size w wr) (fun _ i _ => m - (intOf i).toNat)
  case atStart => exact ⟨1, x0, by omega, by omega, rfl, rfl, J0, Below.refl _ _⟩
  case round =>
   clear J0
   obtain ⟨k, x, hk0, hk, rfl, rfl, J, hB⟩ := hrel
   by_cases hlt : k < m
   ·have hkl : k < xs.length := by have := H.out.2; omega
    obtain ⟨g', o', e, hg', c1⟩ := (H.out.1.below hB).at k hkl
    cases e
    have J2 := Lib.hid (J.out.step hkl)
    generalize xs[k] = z at *
    simp only [reduceIte, Bool.false_eq_true] at J2
    have j0 : (0 : Int) ≤ k := by omega
    have j1 : (k : Int) < m := by omega
    have j2 : IntKind.i64.wrap ((k : Int) + 1) = ((k + 1 : Nat) : Int) := by simp only [IntKind.wrap_i64]; omega
    clear J hkl c0 H
    go_wp2
    go_roundw
    case rel => exact ⟨k + 1, _, by omega, by omega, rfl, rfl, J2, hB⟩
    case measure => simp [intOf]; omega
   ·obtain rfl : k = m := by omega
    have R : Hid (∃ a, Ending.returned (.int .i64 x) = .returned (.int .i64 a) ∧ MmI _ xs a) := ⟨x, rfl, by have := J.out; rwa [List.take_of_length_le (by have := H.out.2; omega)] at this⟩
    clear J H c0
    go_wp2
    go_ret
    exact ⟨R.out, hB⟩
theorem ends_eq {zs : List Int} (E : EnV (vT ts ++ ws) lo hi) (hs : ts.Pairwise fun a b => a.1 ≤ b.1) (ne : vT ts ++ ws ≠ []) (h1 : ∀ y ∈ zs, y ∈ vT ts ++ ws) (h2 : ∀ y ∈ ws, y ∈ zs) (h3 : ∀ (h : 0 < ts.length), (ts[0]).1 ∈ zs ∧ (ts[ts.length - 1]).1 ∈ zs) :
  (MmI true zs a → a = lo) ∧ (MmI false zs a → a = hi) := by
 rw [EnV.iff] at E
 obtain ⟨e1, e2⟩ := E
 obtain ⟨p, q⟩ := e2.resolve_left ne
 have tl : ∀ y ∈ vT ts, ∃ u ∈ zs, u ≤ y := fun y hy => by
  obtain ⟨t, ht, rfl⟩ := List.mem_map.1 hy
  obtain ⟨i, hi, rfl⟩ := List.getElem_of_mem ht
  refine ⟨_, (h3 (by omega)).1, ?_⟩
  rcases Nat.eq_zero_or_pos i with rfl | h
  ·exact Int.le_refl _
  ·exact List.pairwise_iff_getElem.1 hs 0 i (by omega) hi h
 have th : ∀ y ∈ vT ts, ∃ u ∈ zs, y ≤ u := fun y hy => by
  obtain ⟨t, ht, rfl⟩ := List.mem_map.1 hy
  obtain ⟨i, hi, rfl⟩ := List.getElem_of_mem ht
  refine ⟨_, (h3 (by omega)).2, ?_⟩
  rcases Nat.eq_or_lt_of_le (show i ≤ ts.length - 1 by omega) with rfl | h
  ·exact Int.le_refl _
  ·exact List.pairwise_iff_getElem.1 hs i _ hi (by omega) h
 refine ⟨fun ⟨m1, m2⟩ => ?_, fun ⟨m1, m2⟩ => ?_⟩
 ·have b1 := (e1 _ (h1 _ m1)).1
  have b2 : ∃ u ∈ zs, u ≤ lo := (List.mem_append.1 p).elim (tl lo) fun h => ⟨lo, h2 lo h, Int.le_refl _⟩
  obtain ⟨u, hu, hl⟩ := b2
  have := m2 u hu
  simp only [reduceIte] at this
  omega
 ·have b1 := (e1 _ (h1 _ m1)).2
  have b2 : ∃ u ∈ zs, hi ≤ u := (List.mem_append.1 q).elim (th hi) fun h => ⟨hi, h2 hi h, Int.le_refl _⟩
  obtain ⟨u, hu, hl⟩ := b2
  have := m2 u hu
  simp only [reduceIte, Bool.false_eq_true] at this
  omega
theorem mem_w {y z : Int} (h : ∀ u ∈ ws, u ∈ xs) (hy : y ∈ xs) (hz : z ∈ xs) : ∀ u ∈ ws ++ [y, z], u ∈ xs := fun u hu => by
 simp only [List.mem_append, List.mem_cons, List.not_mem_nil, or_false] at hu
 rcases hu with hu | rfl | rfl
 ·exact h u hu
 ·exact hy
 ·exact hz
structure GeS (b g p : Nat) (cs : Array Value) (x y : Int) (W : World) : Prop where
 a : At W b cs 173
 c : g < W.heap.size ∧ W.cell? ⟨g, 0, none⟩ = some (.int .i64 x) ∧ W.cell? ⟨g, p, none⟩ = some (.int .i64 y)
theorem GeS.below {g p : Nat} {cs : Array Value} {y : Int} (h : GeS b g p cs x y w) (hb : Below w.heap.size w w') : GeS b g p cs x y w' := ⟨h.a.below hb, Nat.lt_of_lt_of_le h.c.1 hb.size, cellB hb h.c.1 h.c.2.1, cellB hb h.c.1 h.c.2.2⟩
set_option maxRecDepth 100000 in
set_option maxHeartbeats 1000000 in
theorem gends_any (h : GrB w b u v n R W rc wc ts ws) (g : GrI ts ws n lo hi) (hn : n ≤ 8000) : Calls Tryz.prog 269 #[.pointer (some ⟨b, 0, none⟩)] w fun e w' => e = .returned (if n = 0 then .tuple #[.int .i64 0, .int .i64 0, .bool false] else .tuple #[.int .i64 lo, .int .i64 hi, .bool true]) ∧ Below w.heap.size w w' := by
 have f1 := h.box.c5
 have l1 := h.box.lt
 have gl := g.len
 by_cases h0 : n = 0
 ·subst h0
  clear h g gl
  rw [if_pos rfl]
  go_enter Tryz.func269, Tryz.ntmps269
  go_wp2
  go_ret3
  exact ⟨rfl, Below.refl _ _⟩
 rw [if_neg h0]
 have EE := Lib.hid fun zs a => ends_eq (a := a) (zs := zs) g.2.1 g.1.srt (fun e => h0 (g.zero.2 e))
 have CL := Lib.hid (cloneR_any W wc ws.length ws w h.wai.rd rfl (fun e => ((own_nil h.wai).2.1 e).1) (by omega))
 have HH := Lib.hid h
 have d0 : (n == 0) = false := beq_eq_false_iff_ne.2 h0
 have gq : ts.length = 0 → (ws.length : Int) = n := fun e => by
  have := g.1.sum
  rw [List.eq_nil_of_length_eq_zero e] at this
  simp [sumT] at this
  omega
 obtain ⟨q, hq⟩ : ∃ q, ws.length = q := ⟨_, rfl⟩
 obtain ⟨m, hm⟩ : ∃ m, ts.length = m := ⟨_, rfl⟩
 rw [hq] at f1 gl gq CL
 rw [hm] at f1 gl gq
 clear h g
 go_enter Tryz.func269, Tryz.ntmps269
 go_wp2_with fail
 refine CL.out.mono ?_
 rintro e w1 ⟨A', c', rfl, hO, hb⟩
 have s1 := HH.out.box.below hb
 rw [hq, hm] at s1
 have H1 := Lib.hid (And.intro hO (And.intro hq (And.intro hm hb)))
 clear f1 l1 CL hO hb hq hm d0
 have f1 := s1.c5
 have l1 := s1.lt
 have T : Hid (∀ w5 zs A5 c5 N, OwnW w.heap.size w5 A5 c5 zs → zs.length = N → 0 < N → N ≤ 8100 → Below w.heap.size w w5 → (∀ a, (MmI true zs a → a = lo) ∧ (MmI false zs a → a = hi)) → Calls Tryz.prog 274 #[.slice A5 N c5] w5 (fun e w' => e = .returned (.int .i64 lo) ∧ Below w.heap.size w w' ∧ Calls Tryz.prog 275 #[.slice A5 N c5] w' fun e w' => e = .returned (.int .i64 hi) ∧ Below w.heap.size w w')) := fun w5 zs A5 c5 N ho hz h1 h2 hb hE => by
  refine (mm_any (s := true) ho.rd hz h1 h2).mono ?_
  rintro e w6 ⟨⟨a, rfl, ha⟩, hb6⟩
  refine ⟨by rw [(hE a).1 ha], keep1 hb hb6, (mm_any (s := false) (ho.rd.below hb6) hz h1 h2).mono ?_⟩
  rintro e w7 ⟨⟨a, rfl, ha⟩, hb7⟩
  exact ⟨by rw [(hE a).2 ha], keep1 (keep1 hb hb6) hb7⟩
 by_cases h1 : 0 < m
 rotate_left
 ·have MM := Lib.hid (T.out w1 ws A' c' q H1.out.1 H1.out.2.1 (by omega) (by omega) H1.out.2.2.2 fun a => EE.out ws a (fun y hy => by simp [hy]) (fun y hy => hy) fun h => absurd h (by have := H1.out.2.2.1; omega))
  have d1 : decide (0 < m) = false := decide_eq_false h1
  clear T EE HH H1 s1
  go_wp2_with fail
  refine MM.out.mono ?_
  rintro e w6 ⟨rfl, _, r⟩
  have r := Lib.hid r
  clear MM f1 l1
  go_wp2_with fail
  refine r.out.mono ?_
  rintro e w7 ⟨rfl, hb⟩
  clear r
  go_wp2
  go_ret3
  exact ⟨rfl, hb⟩
 obtain ⟨g, rfl⟩ := (own_nil HH.out.own).2.2 (.inl (by have := H1.out.2.2.1; omega))
 have lm := H1.out.2.2.1
 have m0 : 0 < ts.length := by omega
 have m1 : ts.length - 1 < ts.length := by omega
 obtain ⟨g', o, e, hg, c0, -, -⟩ := (own_rd HH.out.own).at3 m0
 cases e
 obtain ⟨g', o, e, -, c1, -, -⟩ := (own_rd HH.out.own).at3 m1
 cases e
 have EE := Lib.hid fun a => EE.out (ws ++ [ts[0].1, ts[ts.length - 1].1]) a (mem_w (fun u hu => by simp [hu]) (List.mem_append_left _ (List.mem_map_of_mem (List.getElem_mem m0))) (List.mem_append_left _ (List.mem_map_of_mem (List.getElem_mem m1)))) (fun u hu => by simp [hu]) fun h => ⟨by simp, by simp⟩
 have x1 : ts[ts.length - 1].1 = (ts.getD (m - 1) (0, 0, 0)).1 := by rw [List.getD_eq_getElem?_getD, List.getElem?_eq_getElem (by omega)]; simp only [Option.getD_some, lm]
 rw [x1] at c1 EE
 rw [lm, Nat.zero_add] at c1
 rw [Nat.zero_mul, Nat.add_zero] at c0
 generalize ts[0].1 = x at *
 generalize (ts.getD (m - 1) (0, 0, 0)).1 = y at *
 obtain ⟨A5, c5, w5, hr, ho, hf, -⟩ := run_appW w.heap.size A' c' ws [x, y] (w1.drew.alloc (.cells #[.int .i64 x, .int .i64 y] 2)) (H1.out.1.below (keep1 (Below.refl _ _).drew (bn _ _))) ⟨w1.drew.heap.size, 0, none⟩ 2
  (fun j u hu => ⟨_, 0, rfl, (At.new w1.drew #[.int .i64 x, .int .i64 y] 2).lt, by rw [Nat.zero_add]; exact (At.new w1.drew #[.int .i64 x, .int .i64 y] 2).cell (by simpa using hu)⟩) (by have := H1.out.2.1; simp; omega) (by have := H1.out.2.2.2.size; simp; omega)
 rw [H1.out.2.1] at hr
 simp only [List.length_cons, List.length_nil, Nat.zero_add, Nat.reduceAdd] at hr
 have bA := keep1 (keep1 H1.out.2.2.2 (Below.refl _ _).drew) (bn w1.drew (.cells #[.int .i64 x, .int .i64 y] 2))
 have b5 := hf.below bA bA.size fun k hk => (own_blk H1.out.1 k hk).1
 have MM := Lib.hid (T.out w5 _ A5 c5 (q + 2) ho (by rw [List.length_append, H1.out.2.1]; rfl) (by omega) (by omega) b5 EE.out)
 have s0 := HH.out.box
 rw [H1.out.2.1, lm] at s0
 have hS := (⟨s0, hg, c0, c1⟩ : GeS b g ((m - 1) * 3) _ x y w)
 have S1 := hS.below (keep1 H1.out.2.2.2 (Below.refl _ _).drew)
 have S2 := hS.below bA
 have S5 := hS.below b5
 have k0 : (0 : Int) < m := by omega
 have k1 : IntKind.i64.wrap ((m : Int) - 1) = ((m - 1 : Nat) : Int) := by simp only [IntKind.wrap_i64]; omega
 have k2 : (0 : Int) ≤ ((m - 1 : Nat) : Int) := by omega
 have k3 : ((m - 1 : Nat) : Int) < m := by omega
 have d1 : decide (0 < m) = true := decide_eq_true h1
 replace hr := Lib.hid hr
 clear T EE HH H1 s1 s0 hS ho hf bA b5 c0 c1 hg m0 m1 lm x1
 go_upto_region 6 with fail
 refine held_h (by kernel_rfl) (HeldS.mk' S1) (fun hHeld => ?_)
 clear f1 l1 S1
 generalize w1.drew = W1 at *
 have hne := hHeld.ne
 have hf1 := fun z => (hHeld.get z).a.c5
 have hf2 := fun z => (hHeld.get z).c
 refine runH [17] 3 hHeld ?_
 simp only [runL, runN, runOps_true, runOps_false, runOps_nil]
 repeat go_big_quiet_step (fail)
 refine wpQuiet_nil ?_
 clear hf1 hf2 hne
 refine readyH 17 fun K hK => ?_
 go_simp
 refine hK.out _ _ (HeldS.mk' S2) (fun hHeld => ?_)
 clear hK K S2
 refine readyH 18 fun K hK => ?_
 refine ite_of rfl ?_
 refine opwp_run _ _ _ _ rfl _ _ _ rfl rfl hr.out 46 rfl ?_
 simp only [List.setIfInBounds_toArray, List.set_cons_zero, List.set_cons_succ]
 refine hK.out _ _ (HeldS.mk' S5) (fun hHeld => ?_)
 clear hK K hr
 refine readyH 19 fun K hK => ?_
 go_simp
 refine hK.out _ _ (HeldS.mk' S5) (fun hHeld => ?_)
 clear hK K S5 hHeld
 refine doneH ?_
 go_wp2_with fail
 refine MM.out.mono ?_
 rintro e w6 ⟨rfl, _, r⟩
 have r := Lib.hid r
 clear MM
 go_wp2_with fail
 refine r.out.mono ?_
 rintro e w7 ⟨rfl, hb⟩
 clear r
 go_wp2
 go_ret3
 exact ⟨rfl, hb⟩
end
end Go.Proofs.YtlbnlmhcpephbaaGreatDoor

namespace Go.Proofs.YtlbnlmhcpephbaaGreatDoor
open Go.RowKit
section
variable {w w' W1 : World} {b o c k m rc wc : Nat} {u v T N n lo hi lo2 hi2 x a : Int} {ts us : List Tu} {ws xs : List Int} {A R W : Option Addr} {S S2 : List Nat} {s : Bool}
def GdB (u v : Int) (w : World) (e : Ending) (w' : World) : Prop := (∃ b : Bool, e = .returned (.bool b) ∧ (b = true → u ≤ 2147483648 ∧ v ≤ 2147483648)) ∧ Below w.heap.size w w'
theorem ggood_any (w : World) (hv : U64 v) : Calls Tryz.prog 61 #[.agg #[.int .u64 u, .int .u64 v]] w (GdB u v w) := by
 have v1 : IntKind.u64.wrap (v / 2) = v / 2 := by unfold U64 at hv; simp only [IntKind.wrap_u64]; omega
 have v2 : v.tdiv 2 = v / 2 := by rw [Int.tdiv_eq_ediv_of_nonneg hv.1]
 by_cases h1 : 0 < u <;> by_cases h2 : v ≤ 2147483648
 all_goals
  go_enter Tryz.func61, Tryz.ntmps61
  go_wp2
  go_ret
  exact ⟨⟨_, rfl, fun h => by simp at h <;> omega⟩, (by repeat (first | with_reducible assumption | with_reducible exact Below.refl _ _ | with_reducible refine Below.drew ?_ | with_reducible refine Below.drewN ?_ _ | with_reducible refine Below.setCell ?_ (by first | omega | (simp; done) | (simp; omega)) _ | with_reducible refine Below.alloc ?_ (by first | omega | (simp; done) | (simp; omega) | (simp [World.setCell]; omega)) _))⟩
def GkN (u v n lo hi : Int) (w : World) (e : Ending) (w' : World) : Prop := ((∃ b S, e = .returned (.tuple #[.pointer (some ⟨b, 0, none⟩), .int .i64 0]) ∧ Gk w' b S u v n lo hi ∧ b ∈ S ∧ Within S w.heap.size w'.heap.size) ∨ (∃ f : Int, f ≠ 0 ∧ e = .returned (.tuple #[.pointer none, .int .i64 f]))) ∧ Below w.heap.size w w'
theorem gnew_any (hv : U64 v) : Calls Tryz.prog 45 #[.agg #[.int .u64 u, .int .u64 v]] w fun e w' => ((∃ b, e = .returned (.tuple #[.pointer (some ⟨b, 0, none⟩), .int .i64 0]) ∧ w.heap.size ≤ b ∧ GrB w' b u v 0 none none 0 0 [] [] ∧ u ≤ 2147483648 ∧ v ≤ 2147483648) ∨ (∃ f : Int, f ≠ 0 ∧ e = .returned (.tuple #[.pointer none, .int .i64 f]))) ∧ Below w.heap.size w w' := by
  have aB := At.new w #[.int .u64 u, .int .u64 v] 25
  have bA := bn w (.cells #[.int .u64 u, .int .u64 v] 25)
  have C := Lib.hid (ggood_any (u := u) (w.alloc (.cells #[.int .u64 u, .int .u64 v] 25)) hv)
  go_enter Tryz.func45, Tryz.ntmps45
  go_wp2_with fail
  refine C.out.mono ?_
  rintro e w1 ⟨⟨g, rfl, gd⟩, hb⟩
  have GD := Lib.hid gd
  have sB := (aB.below hb).two
  replace bA := keep1 bA hb
  clear C aB hb gd
  cases g with
  | false =>
    go_wp2
    go_ret2
    exact ⟨.inr ⟨1, by decide, rfl⟩, bA⟩
  | true =>
    go_wp2
    go_ret2
    exact ⟨.inl ⟨w1.heap.size, rfl, bA.size, ⟨At.new' _ _ _ rfl, ⟨rfl, .inl ⟨rfl, rfl⟩⟩, OwnW.nil _ _, by simp [blk]⟩, GD.out (by simp)⟩, keep1 bA (bn _ _)⟩
theorem own_low {base base' k n : Nat} {e : TypeId} {v : Value} {cs : List Value} (h : w.ownsRow base e k v n cs) (hb : base' ≤ base) : w.ownsRow base' e k v n cs := ⟨h.1, h.2.imp id fun ⟨g, cp, cur, e, a, r⟩ => ⟨g, cp, cur, e, Nat.le_trans hb a, r⟩⟩
def GfR (n lo hi : Int) (w : World) (e : Ending) (w' : World) : Prop := ∃ A' c' us, e = .returned (.slice A' us.length c') ∧ Rd w' A' (flatT us) ∧ TuS us n ∧ EnV (vT us) lo hi ∧ Below w.heap.size w w'
set_option maxRecDepth 100000 in
set_option maxHeartbeats 1000000 in
theorem gflushed_any (h : GrB w b u v n R W rc wc ts ws) (g : GrI ts ws n lo hi) (hn : n ≤ 8000) (hv : U64 v) : Calls Tryz.prog 313 #[.pointer (some ⟨b, 0, none⟩)] w (GfR n lo hi w) := by
 have gl := g.len
 have h1 := h.below (Below.refl _ _).drew
 have C1 := Lib.hid (clone_g (j := .t) h1.own flatT_one (by omega))
 have C2 := Lib.hid fun W' (hb : Below w.drew.heap.size w.drew W') => cloneR_any W wc ws.length ws W' (h1.wai.below hb).rd rfl (fun e => ((own_nil h.wai).2.1 e).1) (by omega)
 have G := Lib.hid (And.intro g (And.intro hn hv))
 have hT : GkW b _ w.drew := h1.box
 have B0 : Hid (Below w.heap.size w w.drew) := (Below.refl _ _).drew
 dsimp only [Sl.cln] at C1
 obtain ⟨q, hq⟩ : ∃ q, ws.length = q := ⟨_, rfl⟩
 obtain ⟨m, hm⟩ : ∃ m, ts.length = m := ⟨_, rfl⟩
 have HL := Lib.hid (And.intro hq hm)
 rw [hq] at C2 hT
 rw [hm] at C1 hT
 clear h g h1 hn hv hq hm
 go_enter Tryz.func313, Tryz.ntmps313
 go_upto_region 1 with fail
 refine held_h (by kernel_rfl) (HeldS.mk' hT) (fun hHeld => ?_)
 generalize w.drew = W0 at *
 have hne := hHeld.ne
 have hf1 := fun z => (hHeld.get z).a.c5
 refine runH [8, 1, 4, 1, 4] 5 hHeld ?_
 simp only [runL, runN, runOps_true, runOps_false, runOps_nil]
 repeat go_big_quiet_step (fail)
 refine wpQuiet_nil ?_
 clear hf1 hne
 refine readyH 8 fun K hK => ?_
 go_simp
 go_wp2_with (go_at_call 116; refine C1.out.mono ?_; rintro e w1 ⟨A1, c1, rfl, o1, hb1⟩)
 replace hT : GkW b _ w1 := hT.a.below hb1
 have C2 := Lib.hid (C2.out w1 hb1)
 refine hK.out _ _ (HeldS.mk' hT) (fun hHeld => ?_)
 clear hK K
 refine readyH 13 fun K hK => ?_
 go_simp
 go_wp2_with (go_at_call 117; refine C2.out.mono ?_; rintro e w2 ⟨A2, c2, rfl, o2, hb2⟩)
 replace hT : GkW b _ w2 := hT.a.below hb2
 refine hK.out _ _ (HeldS.mk' hT) (fun hHeld => ?_)
 clear hK K C1 C2
 refine readyH 18 fun K hK => ?_
 go_simp
 refine hK.out _ _ (HeldS.mk' hT) (fun hHeld => ?_)
 clear hK K
 have N1 : GrB (w2.alloc (.cells #[.int .u64 u, .int .u64 v, .slice A1 m c1, .slice A2 q c2, .int .u64 n] 173)) w2.heap.size u v n A1 A2 c1 c2 ts ws := by
  have z := hb2.size
  refine ⟨by rw [HL.out.1, HL.out.2]; exact At.new _ _ _, ?_, OwnW.below (own_low o2 (Nat.zero_le _)) (bn _ _), fun h => ?_, fun h => ?_, fun k hk hk' => ?_⟩
  ·unfold OwT
   rw [HL.out.2]
   exact own_frame (T := []) (own_low o1 (Nat.zero_le _)) (Frame.of_below (keep1 hb2 (bn _ _))) fun _ _ => by simp
  ·have := (own_blk o1 _ h).2; omega
  ·have := (own_blk o2 _ h).2; omega
  ·have := (own_blk o1 k hk).2; have := (own_blk o2 k hk').1; omega
 have zS : ∀ k ∈ w2.heap.size :: (blk A1 ++ blk A2), w.heap.size ≤ k := fun k hk => by
  have z0 := B0.out.size
  have z1 := hb1.size
  have z2 := hb2.size
  simp only [List.mem_cons, List.mem_append] at hk
  rcases hk with rfl | hk | hk
  ·omega
  ·have := (own_blk o1 k hk).1; omega
  ·have := (own_blk o2 k hk).1; omega
 have bV := keep1 (keep1 (keep1 B0.out hb1) hb2) (bn w2 (.cells #[.int .u64 u, .int .u64 v, .slice A1 m c1, .slice A2 q c2, .int .u64 n] 173))
 have FL := Lib.hid (gflush_any N1 G.out.1 G.out.2.1 G.out.2.2)
 have zS := Lib.hid (And.intro zS bV)
 replace hT : GkW b _ (w2.alloc (.cells #[.int .u64 u, .int .u64 v, .slice A1 m c1, .slice A2 q c2, .int .u64 n] 173)) := hT.a.below (bn _ _)
 clear o1 hb1 o2 hb2 N1 bV
 refine readyH 19 fun K hK => ?_
 go_simp
 refine hK.out _ _ (HeldS.mk' hT) (fun hHeld => ?_)
 clear hK K
 refine readyH 20 fun K hK => ?_
 go_simp
 refine hK.out _ _ (HeldS.mk' hT) (fun hHeld => ?_)
 clear hK K hT
 refine doneH ?_
 go_wp2_with fail
 refine FL.out.mono ?_
 rintro e w6 ⟨rfl, t1, R1, W3, rc1, wc3, h3, g3, m3⟩
 have R : Hid (GfR n lo hi w (.returned (.slice R1 t1.length rc1)) w6) := ⟨R1, rc1, t1, rfl, own_rd h3.own, by simpa using g3.1, by simpa using g3.2.1, m3.f.below zS.out.2 zS.out.2.size zS.out.1⟩
 have f6 := h3.box.c5
 have l6 := h3.box.lt
 clear h3 g3 m3 FL zS
 go_wp2
 go_ret
 exact R.out
end
end Go.Proofs.YtlbnlmhcpephbaaGreatDoor

namespace Go.Proofs.YtlbnlmhcpephbaaGreatDoor
open Go.RowKit
set_option maxRecDepth 100000
structure TcJ (w : World) (b g : Nat) (u v : Int) (W : World) (cs : Array Value) (A : Option Addr) (c : Nat) (xs : List Int) (B : Option Addr) (d : Nat) (ys : List Int) : Prop where
 tb : At W b cs 198
 arg : At W g #[.int .u64 u, .int .u64 v] 25
 o1 : OwnQ (b + 1) W A c xs
 o2 : OwnQ (b + 1) W B d ys
 ap : ∀ k ∈ blk A, k ∉ blk B
 bl : Below w.heap.size w W
 lt : w.heap.size ≤ g ∧ g < b
section
variable {w w' W W' : World} {b g c d c' : Nat} {A B A' : Option Addr} {xs ys zs : List Int} {u v : Int} {cs ds : Array Value}
theorem TcJ.swap (h : TcJ w b g u v W cs A c xs B d ys) : TcJ w b g u v W cs B d ys A c xs := ⟨h.tb, h.arg, h.o2, h.o1, fun k hk hm => h.ap k hm hk, h.bl, h.lt⟩
theorem TcJ.app (h : TcJ w b g u v W cs A c xs B d ys) (ho : OwnQ (b + 1) W' A' c' zs) (hf : Frame (blk A) W W') (hk : ∀ k ∈ blk A', k ∈ blk A ∨ W.heap.size ≤ k) : TcJ w b g u v W' cs A' c' zs B d ys := by
 have a := own_blk h.o1
 have z := h.lt
 exact ⟨hf.at h.tb fun m => by have := a b m; omega, hf.at h.arg fun m => by have := a g m; omega, ho, own_frame h.o2 hf fun k hk m => h.ap k m hk, fun k hm hn => (hk k hm).elim (fun e => h.ap k e hn) fun e => by have := (own_blk h.o2 k hn).2; omega, hf.below h.bl h.bl.size fun k hk => by have := (a k hk).1; omega, h.lt⟩
theorem TcJ.below (h : TcJ w b g u v W cs A c xs B d ys) (hb : Below W.heap.size W W') : TcJ w b g u v W' cs A c xs B d ys :=
 h.app (own_frame (T := []) h.o1 (Frame.of_below hb) fun _ _ => by simp) (Frame.of_below hb) fun _ h => .inl h
theorem TcJ.set {i : Nat} {x : Value} (h : TcJ w b g u v W cs A c xs B d ys) (hs : At (W.setCell ⟨b, i, none⟩ x) b ds 198) : TcJ w b g u v (W.setCell ⟨b, i, none⟩ x) ds A c xs B d ys := by
 have f := Frame.set [b] W b i x (by simp)
 have z := h.lt
 refine ⟨hs, f.at h.arg (by simp; omega), own_frame h.o1 f fun k hk m => ?_, own_frame h.o2 f fun k hk m => ?_, h.ap, h.bl.setCell (p := ⟨b, i, none⟩) (by show w.heap.size ≤ b; omega) x, z⟩
 ·have := (own_blk h.o1 k hk).1; simp at m; omega
 ·have := (own_blk h.o2 k hk).1; simp at m; omega
def TcR (w : World) (b g : Nat) (u v : Int) (k : Nat) (x : Int) (W : World) : Prop := ∃ (n : Nat) (A : Option Addr) (c : Nat) (xs : List Int) (B : Option Addr) (d : Nat) (ys : List Int), U64 x ∧ n ≤ 4096 ∧ k = 4096 - n ∧ xs.length = n ∧ ys.length = n ∧ TcJ w b g u v W #[.int .u64 u, .int .u64 v, .slice A n c, .slice B n d] A c xs B d ys
def TbR (u v : Int) (w : World) (e : Ending) (w' : World) : Prop := ((∃ t S, e = .returned (.tuple #[.pointer (some ⟨t, 0, none⟩), .int .i64 0]) ∧ Tc w' t S ∧ Within S w.heap.size w'.heap.size ∧ t ∈ S ∧ u ≤ 2147483648 ∧ v ≤ 2147483648) ∨ ∃ c : Int, c ≠ 0 ∧ e = .returned (.tuple #[.pointer none, .int .i64 c])) ∧ Below w.heap.size w w'
set_option maxHeartbeats 2000000 in
theorem cnew_w (hu : U64 u) (hv : U64 v) : Calls Tryz.prog 56 #[.agg #[.int .u64 u, .int .u64 v]] w (TbR u v w) := by
 have s := At.new w #[.int .u64 u, .int .u64 v] 25
 have hb := bn w (.cells #[.int .u64 u, .int .u64 v] 25)
 have f1 := s.two
 have F : Hid (∀ (c : Int) W, c ≠ 0 → Below w.heap.size w W → TbR u v w (.returned (.tuple #[.pointer none, .int .i64 c])) W) := fun c W h k => ⟨.inr ⟨c, h, rfl⟩, k⟩
 have NX := Lib.hid fun x W (hx : U64 x) => cnext_w (w := W) hu hv hx
 go_enter Tryz.func56, Tryz.ntmps56
 go_wp2_with fail
 refine cgood_w.mono ?_
 rintro e w1 ⟨⟨gd, rfl, gb⟩, hb1⟩
 have GB := Lib.hid gb
 replace s := s.below hb1
 replace hb := keep1 hb hb1
 have f2 := s.two
 have l2 := s.lt
 clear hu hv hb1 f1 gb
 cases gd
 ·go_wp2
  go_ret2
  exact F.out 1 _ (by decide) hb
 have J : Hid (∃ k, TcR w w1.heap.size w.heap.size u v k 1 (w1.alloc (.cells #[.int .u64 u, .int .u64 v, .slice none 0 0, .slice none 0 0] 198))) :=
  ⟨_, 0, none, 0, [], none, 0, [], by unfold U64; omega, by omega, rfl, rfl, rfl, At.new _ _ _, s.below (bn _ _), ⟨rfl, .inl ⟨rfl, rfl⟩⟩, ⟨rfl, .inl ⟨rfl, rfl⟩⟩, by simp [blk], keep1 hb (bn _ _), Nat.le_refl _, l2⟩
 clear s hb
 go_wp2
 clear f2 l2
 generalize w1.alloc _ = W1 at *
 generalize w1.heap.size = b at *
 go_loopw [5] (fun low wr => ∃ x : Int, low = .int .u64 x ∧ Hid (∃ k, TcR w b w.heap.size u v k x wr)) (fun low wr => mu fun k => TcR w b w.heap.size u v k (intOf low) wr)
 case atStart => exact ⟨1, rfl, J⟩
 case round =>
  clear J
  obtain ⟨x, rfl, J⟩ := hrel
  replace J := mu_spec J.out
  obtain ⟨k, hk⟩ : ∃ k, (mu fun k => TcR w b w.heap.size u v k x wr) = k := ⟨_, rfl⟩
  rw [hk] at J
  have MU := Lib.hid hk
  obtain ⟨n, A, c, xs, B, d, ys, hx, hn, hkn, hl1, hl2, T⟩ := J
  have f1 := T.tb.c4
  have l1 := T.tb.lt
  have f2 := T.arg.two
  have l2 := T.arg.lt
  have HL := Lib.hid (And.intro hl1 (And.intro hl2 (And.intro hkn hn)))
  clear hk
  by_cases hle : x ≤ 9223372036854775808
  ·by_cases h4 : (4096 : Int) ≤ n
   ·have R := Lib.hid (F.out 6 wr (by decide) T.bl)
    clear T
    go_wp2
    go_ret2
    exact R.out
   have NX := Lib.hid (NX.out x wr hx)
   replace T := Lib.hid T
   clear F hl1 hl2 hkn
   go_wp2_with fail
   refine NX.out.mono ?_
   rintro e w2 ⟨⟨r, h, rfl, hh⟩, hb⟩
   replace T := Lib.hid (T.out.below (keep1 hb (Below.refl _ _).drew))
   have HH := Lib.hid hh
   clear f1 l1 f2 l2 NX hb hh
   go_upto_region 9 with fail
   have hT : AtH b _ _ w2.drew := T.out.tb
   refine until_h 18 (by kernel_rfl) (HeldS.mk' hT) (fun hHeld => ?_)
   generalize w2.drew = W0 at *
   have hne := hHeld.ne
   have hneF := heldT W0
   have hf1 := fun x => (hHeld.get x).a.c4
   refine runV [5, 1, 1, 2, 3, 1, 1] 12 hHeld ?_
   simp only [runL, runN, runOps_true, runOps_false, runOps_nil]
   repeat go_big_quiet_step (fail)
   refine wpQuiet_nil ?_
   refine runW [0, 5, 1, 6, 1] 10 hHeld ?_
   simp only [runL, runN, runOps_true, runOps_false, runOps_nil]
   repeat go_big_quiet_step (fail)
   refine wpQuiet_nil ?_
   clear hf1 hne hneF hHeld
   have AK : Hid (∀ k ∈ blk A, k < W0.heap.size) := fun k hk => (own_blk T.out.o1 k hk).2
   refine wpAnyU_ready (rs := [7, 14]) (by kernel_rfl) (by simp) ?_
   refine AllReadyU.cons rfl (fun K hK => ?_) (AllReadyU.cons rfl (fun K hK => ?_) (AllReadyU.nil))
   focus go_simp
   focus go_wp2
   refine hK.out _ _ (fun _ => HeldS.mk' (T.out.below (bn _ _)).tb) ?_
   clear hK K
   have Q := At.new W0 #[.int .u64 x] 23
   replace T := Lib.hid (T.out.below (bn W0 (.cells #[.int .u64 x] 23)))
   generalize W0.alloc _ = W1 at *
   generalize W0.heap.size = p at *
   refine wpAnyU_ready (rs := [8, 14]) (by kernel_rfl) (by simp) ?_
   refine AllReadyU.cons rfl (fun K hK => ?_) (AllReadyU.cons rfl (fun K hK => ?_) (AllReadyU.nil))
   obtain ⟨A', c', W', hr, ho, hf, hk⟩ := app_q T.out.o1 (by have := HL.out; omega) T.out.tb.lt Q
   rw [HL.out.1] at hr
   refine ite_of rfl ?_
   refine opwp_run _ _ _ _ rfl _ _ _ rfl rfl hr 36 rfl ?_
   simp only [List.setIfInBounds_toArray, List.set_cons_zero, List.set_cons_succ]
   replace T := Lib.hid (T.out.app ho hf hk)
   refine hK.out _ _ (fun _ => HeldS.mk' T.out.tb) ?_
   clear hK K hr ho hk
   clear Q hf
   refine readyU 14 fun K hK => ?_
   focus go_simp
   focus go_wp2
   refine hK.out _ _ (fun _ => HeldS.mk' (T.out.below (bn _ _)).tb) ?_
   clear hK K
   have P := At.new W' #[.int .u64 r] 23
   replace T := Lib.hid (T.out.below (bn W' (.cells #[.int .u64 r] 23)))
   generalize W'.alloc _ = W at *
   generalize W'.heap.size = p2 at *
   rotate_left
   focus go_simp
   focus go_wp2
   refine hK.out _ _ (fun _ => HeldS.mk' (T.out.below (bn _ _)).tb) ?_
   clear hK K
   have P := At.new W1 #[.int .u64 r] 23
   replace T := Lib.hid (T.out.below (bn W1 (.cells #[.int .u64 r] 23)))
   have zp : p < W1.heap.size := Q.lt
   replace Q := Q.alloc (.cells #[.int .u64 r] 23)
   generalize W1.alloc _ = W at *
   generalize W1.heap.size = p2 at *
   refine readyU 8 fun K hK => ?_
   obtain ⟨A', c', W', hr, ho, hf, hk⟩ := app_q T.out.o1 (by have := HL.out; omega) T.out.tb.lt Q
   rw [HL.out.1] at hr
   refine ite_of rfl ?_
   refine opwp_run _ _ _ _ rfl _ _ _ rfl rfl hr 36 rfl ?_
   simp only [List.setIfInBounds_toArray, List.set_cons_zero, List.set_cons_succ]
   replace T := Lib.hid (T.out.app ho hf hk)
   refine hK.out _ _ (fun _ => HeldS.mk' T.out.tb) ?_
   clear hK K hr ho hk
   replace P := hf.at P fun m => by have := AK.out _ m; omega
   clear Q hf zp
   rotate_left
   focus go_simp
   focus go_wp2
   refine hK.out _ _ (fun _ => HeldS.mk' (T.out.below (bn _ _)).tb) ?_
   clear hK K
   have P := At.new W0 #[.int .u64 r] 23
   replace T := Lib.hid (T.out.below (bn W0 (.cells #[.int .u64 r] 23)))
   generalize W0.alloc _ = W1 at *
   generalize W0.heap.size = p2 at *
   refine readyU 7 fun K hK => ?_
   focus go_simp
   focus go_wp2
   refine hK.out _ _ (fun _ => HeldS.mk' (T.out.below (bn _ _)).tb) ?_
   clear hK K
   have Q := At.new W1 #[.int .u64 x] 23
   replace T := Lib.hid (T.out.below (bn W1 (.cells #[.int .u64 x] 23)))
   replace P := P.alloc (.cells #[.int .u64 x] 23)
   generalize W1.alloc _ = W at *
   generalize W1.heap.size = p at *
   refine readyU 8 fun K hK => ?_
   obtain ⟨A', c', W', hr, ho, hf, hk⟩ := app_q T.out.o1 (by have := HL.out; omega) T.out.tb.lt Q
   rw [HL.out.1] at hr
   refine ite_of rfl ?_
   refine opwp_run _ _ _ _ rfl _ _ _ rfl rfl hr 36 rfl ?_
   simp only [List.setIfInBounds_toArray, List.set_cons_zero, List.set_cons_succ]
   replace T := Lib.hid (T.out.app ho hf hk)
   refine hK.out _ _ (fun _ => HeldS.mk' T.out.tb) ?_
   clear hK K hr ho hk
   replace P := hf.at P fun m => by have := AK.out _ m; omega
   clear Q hf
   all_goals
    refine readyU 15 fun K hK => ?_
    obtain ⟨B', d', W5, hr, ho, hf, hk⟩ := app_q T.out.o2 (by have := HL.out; omega) T.out.tb.lt P
    rw [HL.out.2.1] at hr
    refine ite_of rfl ?_
    refine opwp_run _ _ _ _ rfl _ _ _ rfl rfl hr 43 rfl ?_
    simp only [List.setIfInBounds_toArray, List.set_cons_zero, List.set_cons_succ]
    replace T := Lib.hid (T.out.swap.app ho hf hk).swap
    refine hK.out _ _ (fun _ => HeldS.mk' T.out.tb) ?_
    clear hK K hr ho hk hf P
    refine readyU 16 fun K hK => ?_
    go_simp
    refine hK.out _ _ (fun _ => HeldS.mk' T.out.tb) ?_
    clear hK K
    refine readyU 17 fun K hK => ?_
    go_simp
    refine hK.out _ _ (fun _ => HeldS.mk' T.out.tb) ?_
    clear hK K
    refine readyU 18 fun K hK => ?_
    have f5 := T.out.tb.c4
    have l5 := T.out.tb.lt
    go_simp
    go_wp2
    refine hK.out _ _ (fun h => late_no h (by kernel_rfl)) ?_
    clear hK K f5 l5
    replace T := Lib.hid (T.out.set (T.out.tb.set_any 2 (.slice A' (n + 1) c') rfl))
    refine readyU 19 fun K hK => ?_
    go_simp
    refine hK.out _ _ (fun h => late_no h (by kernel_rfl)) ?_
    clear hK K
    refine readyU 20 fun K hK => ?_
    go_simp
    refine hK.out _ _ (fun h => late_no h (by kernel_rfl)) ?_
    clear hK K
    refine readyU 21 fun K hK => ?_
    have f5 := T.out.tb.c4
    have l5 := T.out.tb.lt
    go_simp
    go_wp2
    refine hK.out _ _ (fun h => late_no h (by kernel_rfl)) ?_
    clear hK K f5 l5
    replace T := T.out.set (T.out.tb.set_any 3 (.slice B' (n + 1) d') rfl)
    refine doneU ?_
    have J : Hid (TcR w b w.heap.size u v (4096 - (n + 1)) (IntKind.u64.wrap (h + 1)) _) := ⟨n + 1, A', c', xs ++ [x], B', d', ys ++ [r], wrapB _, by omega, rfl, by simp; exact HL.out.1, by simp; exact HL.out.2.1, T⟩
    have ML : Hid (4096 - (n + 1) < k) := by have := HL.out; show _ < _; omega
    clear T AK
    go_wp2
    go_roundw
    case rel => exact ⟨_, rfl, _, J.out⟩
    case measure => exact Nat.lt_of_le_of_lt (mu_le J.out) (by rw [← MU.out] at ML; exact ML.out)
  ·have R : Hid (TbR u v w (.returned (.tuple #[.pointer (some ⟨b, 0, none⟩), .int .i64 0])) wr) := by
    have z := T.lt
    refine ⟨.inl ⟨b, _, rfl, ⟨u, v, A, c, xs, B, d, ys, rfl, by rw [hl1, hl2]; exact T.tb, own_low T.o1 (Nat.zero_le _), own_low T.o2 (Nat.zero_le _), by omega, by omega⟩, fun k hk => ?_, by simp, GB.out (by simp)⟩, T.bl⟩
    simp only [List.mem_cons, List.mem_append] at hk
    rcases hk with rfl | hk | hk
    ·exact ⟨by omega, l1⟩
    ·have := own_blk T.o1 k hk; omega
    ·have := own_blk T.o2 k hk; omega
   clear T HL hl1 hl2 hkn
   go_wp2
   go_ret2
   exact R.out
end
end Go.Proofs.YtlbnlmhcpephbaaGreatDoor

namespace Go.Proofs.YtlbnlmhcpephbaaGreatDoor
open Go.RowKit
set_option maxRecDepth 100000
theorem At.c7l {w : World} {b : Nat} {T : TypeId} {v0 v1 v2 v3 v4 v5 v6 : Value} (h : At w b #[v0, v1, v2, v3, v4, v5, v6] T) : w.cell? ⟨b, 0, none⟩ = some v0 ∧ w.cell? ⟨b, 1, none⟩ = some v1 ∧ w.cell? ⟨b, 2, none⟩ = some v2 ∧ w.cell? ⟨b, 3, none⟩ = some v3 ∧ w.cell? ⟨b, 4, none⟩ = some v4 ∧ w.cell? ⟨b, 5, none⟩ = some v5 ∧ w.cell? ⟨b, 6, none⟩ = some v6 ∧ ∀ i, w.frozen? ⟨b, i, none⟩ = false := ⟨h.cell rfl, h.cell rfl, h.cell rfl, h.cell rfl, h.cell rfl, h.cell rfl, h.cell rfl, h.frozen⟩
abbrev lB (q : Nat) (u v sd most lo hi : Int) : Array Value := #[.pointer (some ⟨q, 0, none⟩), .int .u64 u, .int .u64 v, .int .i64 sd, .int .i64 most, .int .i64 lo, .int .i64 hi]
structure LsC (w : World) (b q t : Nat) (TS : List Nat) (s : Bool) (K : Bool → Nat) (S : Bool → List Nat) (u v sd most : Int) (n : Bool → Int) (z lo hi : Int) : Prop where
 at' : At w b (lB q u v sd most lo hi) 154
 bn : BnC w q t TS s K S most n z
 ne : b ∉ bS q TS S
 sd : sdI s = sd
def Lx (w : World) (b : Nat) (U : List Nat) (u v sd most N lo hi : Int) : Prop := ∃ q t TS s K S n z x y, U = b :: bS q TS S ∧ LsC w b q t TS s K S u v sd most n z x y ∧ N = bN n z ∧ (N ≠ 0 → x = lo ∧ y = hi)
section
variable {s : Bool} {w w' W : World} {b q t : Nat} {K : Bool → Nat} {S : Bool → List Nat} {TS T U : List Nat} {u v sd most z lo hi x y lo2 hi2 N : Int} {n : Bool → Int}
theorem LsC.frame (h : LsC w b q t TS s K S u v sd most n z lo hi) (hf : Frame U w w') (hn : Apart (b :: bS q TS S) U) : LsC w' b q t TS s K S u v sd most n z lo hi :=
 ⟨hf.at h.at' (hn b (by simp)), h.bn.frame hf fun k hk => hn k (by simp [hk]), h.ne, h.sd⟩
theorem LsC.below (h : LsC w b q t TS s K S u v sd most n z lo hi) (hb : Below w.heap.size w w') : LsC w' b q t TS s K S u v sd most n z lo hi := h.frame (U := []) (Frame.of_below hb) fun _ _ => by simp
theorem LsC.lt (h : LsC w b q t TS s K S u v sd most n z lo hi) : ∀ k ∈ b :: bS q TS S, k < w.heap.size := fun k hk => by rcases List.mem_cons.1 hk with rfl | e; exact h.at'.lt; exact h.bn.lt k e
theorem LsC.set {i : Nat} {x : Value} (h : LsC w b q t TS s K S u v sd most n z lo hi) (hs : At (w.setCell ⟨b, i, none⟩ x) b (lB q u v sd most lo2 hi2) 154) : LsC (w.setCell ⟨b, i, none⟩ x) b q t TS s K S u v sd most n z lo2 hi2 :=
 ⟨hs, h.bn.frame (Frame.set [b] w b i x (by simp)) fun k hk e => h.ne (by simp at e; exact e ▸ hk), h.ne, h.sd⟩
theorem LsC.ends (h : LsC w b q t TS s K S u v sd most n z lo hi) (x y : Int) : LsC ((w.setCell ⟨b, 5, none⟩ (.int .i64 x)).setCell ⟨b, 6, none⟩ (.int .i64 y)) b q t TS s K S u v sd most n z x y ∧ Frame [b] w ((w.setCell ⟨b, 5, none⟩ (.int .i64 x)).setCell ⟨b, 6, none⟩ (.int .i64 y)) := by
 have a := h.set (lo2 := x) (hi2 := hi) (h.at'.set_any 5 (.int .i64 x) rfl)
 exact ⟨a.set (a.at'.set_any 6 (.int .i64 y) rfl), ((Frame.refl [b] w).setc (b := b) (.inl (by simp)) 5 _).setc (b := b) (.inl (by simp)) 6 _⟩
def LsN (u v sd most : Int) (w : World) (e : Ending) (w' : World) : Prop := ((∃ b q t TS s K S, e = .returned (.tuple #[.pointer (some ⟨b, 0, none⟩), .int .i64 0]) ∧ LsC w' b q t TS s K S u v sd most (fun _ => 0) 0 0 0 ∧ Within (b :: bS q TS S) w.heap.size w'.heap.size ∧ u ≤ 2147483648 ∧ v ≤ 2147483648) ∨ ∃ c : Int, c ≠ 0 ∧ e = .returned (.tuple #[.pointer none, .int .i64 c])) ∧ Below w.heap.size w w'
theorem lsnew_w (hu : U64 u) (hv : U64 v) : Calls Tryz.prog 42 #[.agg #[.int .u64 u, .int .u64 v, .int .i64 sd, .int .i64 most]] w (LsN u v sd most w) := by
 have s1 := At.new w #[.int .u64 u, .int .u64 v, .int .i64 sd, .int .i64 most] 103
 have b1 := bn w (.cells #[.int .u64 u, .int .u64 v, .int .i64 sd, .int .i64 most] 103)
 have F : Hid (∀ (c : Int) W, c ≠ 0 → Below w.heap.size w W → LsN u v sd most w (.returned (.tuple #[.pointer none, .int .i64 c])) W) := fun c W h k => ⟨.inr ⟨c, h, rfl⟩, k⟩
 have CN := Lib.hid (cnew_w (w := w.alloc (.cells #[.int .u64 u, .int .u64 v, .int .i64 sd, .int .i64 most] 103)) hu hv)
 have f1 := s1.c4
 have l1 := s1.lt
 clear hu hv
 go_enter Tryz.func42, Tryz.ntmps42
 go_wp2_with fail
 refine CN.out.mono ?_
 rintro e w1 ⟨⟨t, TS, rfl, hT, wi, tm, ub⟩ | ⟨c, hc, rfl⟩, hb⟩
 rotate_left
 ·have R := Lib.hid (F.out c w1 hc (keep1 b1 hb))
  have d0 : (c != 0) = true := by simpa using hc
  clear CN hb b1
  go_wp2
  go_ret2
  exact R.out
 replace s1 := s1.below hb
 have f2 := s1.c4
 have l2 := s1.lt
 have b2 := keep1 b1 hb
 have BN := Lib.hid (bnew_w (sd := sd) (most := most) hT)
 have z1 := b1.size
 have TI := Lib.hid (And.intro wi b2)
 have UB := Lib.hid ub
 clear f1 l1 CN hT wi tm hb ub
 go_wp2_with fail
 refine BN.out.mono ?_
 rintro e w2 ⟨⟨q, s, K, S, rfl, hs, hB, wi⟩ | ⟨c, hc, rfl⟩, hb⟩
 rotate_left
 ·have R := Lib.hid (F.out c w2 hc (keep1 b2 hb))
  have d0 : (c != 0) = true := by simpa using hc
  clear BN hb b2
  go_wp2
  go_ret2
  exact R.out
 replace s1 := s1.below hb
 have f3 := s1.c4
 have l3 := s1.lt
 have b3 := keep1 b2 hb
 have R : Hid (LsN u v sd most w (.returned (.tuple #[.pointer (some ⟨w2.heap.size, 0, none⟩), .int .i64 0])) (w2.alloc (.cells #[.pointer (some ⟨q, 0, none⟩), .int .u64 u, .int .u64 v, .int .i64 sd, .int .i64 most, .int .i64 0, .int .i64 0] 154))) := by
  have hl := hB.lt
  have z3 := b3.size
  have z2 := b2.size
  have zb := hb.size
  have tw := TI.out.1
  refine ⟨.inl ⟨_, q, t, TS, s, K, S, rfl, ⟨At.new _ _ _, hB.below (bn _ _), fun m => by have := hl _ m; omega, hs⟩, fun k hk => ?_, UB.out⟩, keep1 b3 (bn _ _)⟩
  simp only [bS, List.mem_cons, List.mem_append] at hk
  rw [World.size_alloc]
  rcases hk with rfl | rfl | hk | hk | hk
  ·omega
  ·have := wi k (by simp); omega
  ·have := tw k hk; omega
  ·have := wi k (by simp [hk]); omega
  ·have := wi k (by simp [hk]); omega
 clear hB wi hb b2 b3 b1 s1 f2 l2 BN TI F
 go_wp2
 go_ret2
 exact R.out
set_option maxHeartbeats 1000000 in
theorem lsend_w (h : LsC w b q t TS s K S u v sd most n z lo hi) (hs : bN n z ≤ 16000) : Calls Tryz.prog 184 #[.pointer (some ⟨b, 0, none⟩), .int .i64 x, .int .i64 y] w fun e w' => e = .returned (.tuple #[]) ∧ LsC w' b q t TS s K S u v sd most n z (lowE (bN n z) lo x) (highE (bN n z) hi y) ∧ Frame [b] w w' := by
 have H := Lib.hid h
 have HT := Lib.hid (btot_w h.bn hs)
 have f1 := h.at'.c7l
 have l1 := h.at'.lt
 generalize bN n z = N at *
 clear h hs
 unfold lowE highE
 rcases Decidable.em (N = 0) with rfl | n0
 ·simp only [if_true]
  go_enter Tryz.func184, Tryz.ntmps184
  go_wp2_with fail
  refine HT.out.mono ?_
  rintro e w1 ⟨rfl, hb⟩
  have h := H.out.below hb
  have f2 := h.at'.c7l
  have l2 := h.at'.lt
  have E := Lib.hid (And.intro (h.ends x y).1 ((Frame.of_below (S := [b]) hb).trans (h.ends x y).2))
  clear h hb f1 l1
  go_wp2
  exact bodyPost_ret (results_none rfl _ _ _) rfl ⟨rfl, E.out⟩
 ·simp only [if_neg n0]
  obtain ⟨m, hm⟩ : ∃ m, min lo x = m := ⟨_, rfl⟩
  obtain ⟨M, hM⟩ : ∃ m, max hi y = m := ⟨_, rfl⟩
  rw [hm, hM]
  go_enter Tryz.func184, Tryz.ntmps184
  go_wp2_with fail
  refine HT.out.mono ?_
  rintro e w1 ⟨rfl, hb⟩
  clear f1 l1
  go_upto_region 2 with fail
  have h := H.out.below hb.drew
  have E := Lib.hid (And.intro (h.ends m M).1 ((Frame.of_below (S := [b]) hb.drew).trans (h.ends m M).2))
  have hm1 : CellW b 6 (.int .i64 hi) w1.drew := h.at'.cell rfl
  refine until_h 19 (by kernel_rfl) (HeldS.mk' hm1) (fun hHeld => ?_)
  generalize w1.drew = W at *
  have h2 := h.set (lo2 := m) (hi2 := hi) (h.at'.set_any 5 (.int .i64 m) rfl)
  have hm2 : CellW b 6 (.int .i64 hi) (W.setCell ⟨b, 5, none⟩ (.int .i64 m)) := h2.at'.cell rfl
  have hne := hHeld.ne
  have hfar := fun x => (hHeld.get x).c
  have hneF := heldT W
  have f1 := h.at'.c7l
  have l1 := h.at'.lt
  have f2 := h2.at'.c7l
  have l2 := h2.at'.lt
  clear h h2 H HT hb
  refine runV [5, 1, 1, 1, 3, 1, 1] 10 hHeld ?_
  simp only [runL, runN, runOps_true, runOps_false, runOps_nil]
  repeat go_big_quiet_step (fail)
  refine wpQuiet_nil ?_
  refine runW [0, 11, 1, 1, 1] 8 hHeld ?_
  simp only [runL, runN, runOps_true, runOps_false, runOps_nil]
  repeat go_big_quiet_step (fail)
  refine wpQuiet_nil ?_
  clear hfar hne hHeld
  refine readyU 5 fun K hK => ?_
  go_simp
  go_wp2
  refine hK.out _ _ (fun _ => HeldS.mk' hm1) ?_
  clear hK K
  have hHeld := HeldS.mk' hm1
  refine runV [0, 7, 1, 6, 2] 4 hHeld ?_
  simp only [runL, runN, runOps_true, runOps_false, runOps_nil]
  repeat go_big_quiet_step (fail)
  refine wpQuiet_nil ?_
  refine readyU 16 fun K hK => ?_
  go_simp
  go_wp2
  refine hK.out _ _ (fun _ => HeldS.mk' hm2) ?_
  clear hK K
  replace hHeld := HeldS.mk' hm2
  clear f1 l1
  refine runV [0, 17, 2] 1 hHeld ?_
  simp only [runL, runN, runOps_true, runOps_false, runOps_nil]
  repeat go_big_quiet_step (fail)
  refine wpQuiet_nil ?_
  refine readyU 19 fun K hK => ?_
  go_simp
  go_wp2
  refine hK.out _ _ (fun h => late_no h (by kernel_rfl)) ?_
  refine doneU ?_
  go_wp2
  exact bodyPost_end (results_none rfl _ _ _) rfl ⟨rfl, E.out⟩
theorem lsendz_w (h : LsC w b q t TS s K S u v sd most n z lo hi) (hs : bN n z ≤ 16000) : Calls Tryz.prog 180 #[.pointer (some ⟨b, 0, none⟩)] w fun e w' => e = .returned (if bN n z = 0 then .tuple #[.int .i64 0, .int .i64 0, .bool false] else .tuple #[.int .i64 lo, .int .i64 hi, .bool true]) ∧ Below w.heap.size w w' := by
 have s1 := h.at'
 have f1 := s1.c7l
 have HT := Lib.hid (btot_w h.bn hs)
 generalize bN n z = N at *
 clear h hs
 rcases Decidable.em (N = 0) with rfl | n0 <;> first | rw [if_pos rfl] | rw [if_neg n0]
 all_goals
  go_enter Tryz.func180, Tryz.ntmps180
  go_wp2_with fail
  refine HT.out.mono ?_
  rintro e w1 ⟨rfl, hb⟩
  have f2 := (s1.below hb).c7l
  have l2 := (s1.below hb).lt
  clear f1
  go_wp2
  try go_quiet (fail)
  go_wp2
  go_ret3
  first | exact ⟨rfl, hb.drewN _⟩ | exact ⟨rfl, hb⟩
theorem lsbins_w (h : LsC w b q t TS s K S u v sd most n z lo hi) : Calls Tryz.prog 85 #[.pointer (some ⟨b, 0, none⟩)] w fun e w' => e = .returned (.pointer (some ⟨q, 0, none⟩)) ∧ w = w' := by
 have f1 := h.at'.c7l
 clear h
 go_enter Tryz.func85, Tryz.ntmps85
 go_wp2
 go_ret
 exact ⟨rfl, rfl⟩
theorem lsconf_w (h : LsC w b q t TS s K S u v sd most n z lo hi) : Calls Tryz.prog 199 #[.pointer (some ⟨b, 0, none⟩)] w fun e w' => e = .returned (.agg #[.int .u64 u, .int .u64 v, .int .i64 sd, .int .i64 most]) ∧ Below w.heap.size w w' := by
 have g := h.at'.c7l
 have l := h.at'.lt
 clear h
 go_enter Tryz.func199, Tryz.ntmps199
 go_wp2
 have x := (At.new w #[.int .u64 u, .int .u64 v, .int .i64 sd, .int .i64 most] 103).c4
 exact bodyPost_ret (v := .agg #[.int .u64 u, .int .u64 v, .int .i64 sd, .int .i64 most]) (by simp only [results, Tryz.f199]; simp [go_sem, x]) rfl ⟨rfl, bn _ _⟩
theorem lsset_w (h : LsC w b q t TS s K S u v sd most n z lo hi) (hs : bN n z ≤ 16000) : Calls Tryz.prog 87 #[.pointer (some ⟨b, 0, none⟩), .int .i64 x, .int .i64 y] w fun e w' => ∃ g, e = .returned (.bool g) ∧ (g = false ∧ Below w.heap.size w w' ∨ g = true ∧ LsC w' b q t TS s K S u v sd most n z x y ∧ Frame [b] w w') := by
 have f1 := h.at'.c7l
 have l1 := h.at'.lt
 have H := Lib.hid h
 have HT := Lib.hid (btot_w h.bn hs)
 generalize bN n z = N at *
 clear h hs
 go_enter Tryz.func87, Tryz.ntmps87
 go_wp2_with fail
 refine HT.out.mono ?_
 rintro e w1 ⟨rfl, hb⟩
 have h := H.out.below hb
 have E := Lib.hid (And.intro (h.ends x y).1 ((Frame.of_below (S := [b]) hb).trans (h.ends x y).2))
 have f2 := h.at'.c7l
 have l2 := h.at'.lt
 clear h f1 l1 HT
 go_wp2
 all_goals
  go_ret
  first | exact ⟨_, rfl, .inl ⟨rfl, hb⟩⟩ | exact ⟨_, rfl, .inr ⟨rfl, E.out⟩⟩ | (subst_vars; exact ⟨_, rfl, .inr ⟨rfl, E.out⟩⟩)
end
end Go.Proofs.YtlbnlmhcpephbaaGreatDoor

namespace Go.Proofs.YtlbnlmhcpephbaaGreatDoor
open Go.RowKit
set_option maxRecDepth 100000
section
variable {s : Bool} {w w' W : World} {b o q t : Nat} {K : Bool → Nat} {S : Bool → List Nat} {TS T U V : List Nat} {u v sd most z lo hi x y lo2 hi2 N M c : Int} {n : Bool → Int}
theorem LsC.put (h : LsC w b q t TS s K S u v sd most n z lo hi) (r : BwR q t TS s K S most M w w') : ∃ S' n z, LsC w' b q t TS s K S' u v sd most n z lo hi ∧ Mv (b :: bS q TS S) (b :: bS q TS S') w w' ∧ bN n z = M := by
 obtain ⟨S', n', z', h', m, e⟩ := r
 exact ⟨S', n', z', ⟨m.f.at h.at' h.ne, h', fun k => (m.g b k).elim h.ne fun z => by have := h.at'.lt; omega, h.sd⟩, m.cons b, e⟩
def LspR (b : Nat) (U : List Nat) (u v sd most N lo hi x c : Int) (w : World) (e : Ending) (w' : World) : Prop :=
 ∃ d : Int, e = .returned (.int .i64 d) ∧ (d ≠ 0 ∧ Mv U U w w' ∧ Lx w' b U u v sd most N lo hi ∨ d = 0 ∧ 0 < c ∧ ∃ U', Mv U U' w w' ∧ Lx w' b U' u v sd most (N + c) (lowE N lo x) (highE N hi x))
theorem lsput_w (h : Lx w b U u v sd most N lo hi) (hx : I64 x) (h0 : 0 ≤ c) (hs : N + c ≤ 16000) : Calls Tryz.prog 181 #[.pointer (some ⟨b, 0, none⟩), .int .i64 x, .int .u64 c] w (LspR b U u v sd most N lo hi x c w) := by
 obtain ⟨q, t, TS, s, K, S, n, z, a, d, rfl, h, rfl, he⟩ := h
 have f1 := h.at'.c7l
 have H := Lib.hid (And.intro h (And.intro hx (And.intro h0 (And.intro hs he))))
 have l1 := h.at'.lt
 clear h hx h0 hs he
 go_enter Tryz.func181, Tryz.ntmps181
 go_wp2
 go_quiet (fail)
 have hb : Below w.heap.size w (w.drewN nq) := (Below.refl _ _).drewN _
 clear f1 l1
 go_wp2_with fail
 refine (lsend_w (x := x) (y := x) (H.out.1.below hb) (by have := H.out; omega)).mono ?_
 rintro e w2 ⟨rfl, h2, hF⟩
 replace hF := (Frame.of_below hb).trans hF
 have f2 := h2.at'.c7l
 have l2 := h2.at'.lt
 have AD := Lib.hid (badd_w h2.bn H.out.2.1 H.out.2.2.1 H.out.2.2.2.1)
 have X := Lib.hid (And.intro h2 hF)
 clear hb h2 hF
 go_wp2_with fail
 refine AD.out.mono ?_
 rintro e w3 (⟨rfl, rfl, rfl⟩ | ⟨hc, rfl, r⟩)
 ·have R : Hid (LspR b (b :: bS q TS S) u v sd most (bN n z) lo hi x 0 w (.returned (.int .i64 1)) ((w2.setCell ⟨b, 5, none⟩ (.int .i64 a)).setCell ⟨b, 6, none⟩ (.int .i64 d))) :=
   ⟨1, rfl, .inl ⟨by decide, ⟨GrownS.refl _ _, (X.out.2.trans (X.out.1.ends a d).2).mono (by simp)⟩, q, t, TS, s, K, S, n, z, a, d, rfl, (X.out.1.ends a d).1, rfl, H.out.2.2.2.2⟩⟩
  clear AD X
  go_wp2
  go_ret
  exact R.out
 ·obtain ⟨S', n', z', h3, m, e⟩ := X.out.1.put r
  have R : Hid (LspR b (b :: bS q TS S) u v sd most (bN n z) lo hi x c w (.returned (.int .i64 0)) w3) :=
   ⟨0, rfl, .inr ⟨rfl, hc, _, Mv.trans ⟨GrownS.refl _ _, X.out.2.mono (by simp)⟩ m, q, t, TS, s, K, S', n', z', _, _, rfl, h3, e.symm, fun _ => ends_c H.out.2.2.2.2⟩⟩
  clear AD X h3 m e r f2 l2
  go_wp2
  go_ret
  exact R.out
def LsjR (b : Nat) (U : List Nat) (u v sd most N lo hi M lo2 hi2 : Int) (w w' : World) : Prop := ∃ U', Mv U U' w w' ∧ Lx w' b U' u v sd most (N + M) (if M = 0 then lo else lowE N lo lo2) (if M = 0 then hi else highE N hi hi2)
set_option maxHeartbeats 1000000 in
theorem lsjoin_w (h : Lx w b U u v sd most N lo hi) (k : Lx w o V u v sd most M lo2 hi2) (ap : Apart U V) (hs : N + M ≤ 16000) : Calls Tryz.prog 198 #[.pointer (some ⟨b, 0, none⟩), .pointer (some ⟨o, 0, none⟩)] w fun e w' => e = .returned (.int .i64 0) ∧ LsjR b U u v sd most N lo hi M lo2 hi2 w w' := by
 obtain ⟨q, t, TS, s, K, S, n, z, a, d, rfl, h, hN, he⟩ := h
 obtain ⟨q2, t2, TS2, s2, K2, S2, n2, z2, a2, d2, rfl, k, hM, he2⟩ := k
 obtain rfl : s = s2 := by have := h.sd.trans k.sd.symm; cases s <;> cases s2 <;> simp [sdI] at this ⊢
 have f1 := h.at'.c7l
 have f2 := k.at'.c7l
 have l1 := h.at'.lt
 have l2 := k.at'.lt
 have bd : 0 ≤ N ∧ 0 ≤ M := by have := h.bn.bd; have := k.bn.bd; omega
 have H := Lib.hid (And.intro h (And.intro k (And.intro ap (And.intro hs (And.intro he (And.intro he2 (And.intro hN (And.intro hM bd))))))))
 clear h k ap hs he he2 hN hM bd
 go_enter Tryz.func198, Tryz.ntmps198
 go_wp2
 go_quiet (fail)
 have hb : Below w.heap.size w (w.drewN nq) := (Below.refl _ _).drewN _
 go_wp2_with fail
 refine (btot_w (H.out.2.1.bn.below hb) (by have := H.out; omega)).mono ?_
 rintro e w1 ⟨rfl, hb1⟩
 replace hb := keep1 hb hb1
 rw [← H.out.2.2.2.2.2.2.2.1]
 clear hb1 f1 f2 l1 l2
 by_cases hz : M = 0
 ·have R : Hid (LsjR b (b :: bS q TS S) u v sd most N lo hi M lo2 hi2 w w1) := ⟨_, Mv.of _ hb, q, t, TS, s, K, S, n, z, a, d, rfl, H.out.1.below hb, by have := H.out; omega, by have := H.out.2.2.2.2.1; simpa [hz] using this⟩
  subst hz
  clear hb
  go_wp2
  go_ret
  exact ⟨rfl, R.out⟩
 have hz' := beq_eq_false_iff_ne.2 hz
 obtain ⟨rfl, rfl⟩ := H.out.2.2.2.2.2.1 hz
 have HZ := Lib.hid hz
 have f3 := (H.out.1.below hb).at'.c7l
 have l3 := (H.out.1.below hb).at'.lt
 clear hz
 go_wp2
 go_quiet (fail)
 replace hb := hb.drewN nq
 clear f3 l3
 generalize w1.drewN nq = W0 at *
 have g3 := (H.out.2.1.below hb).at'.c7l
 have k3 := (H.out.2.1.below hb).at'.lt
 replace hb := hb.drew
 go_upto_region 8 with fail
 go_still_tail 9, (by kernel_rfl)
 change wpList _ _ _ _ _ W0.drew
 clear g3 k3
 generalize W0.drew = W at hb ⊢
 go_wp2_with fail
 refine (lsend_w (x := a2) (y := d2) (H.out.1.below hb) (by have := H.out; omega)).mono ?_
 rintro e w2 ⟨rfl, h2, hF⟩
 replace hF := (Frame.of_below hb).trans hF
 have M2 : Mv (b :: bS q TS S) (b :: bS q TS S) w w2.drew := ⟨GrownS.refl _ _, (hF.mono (by simp)).drew⟩
 replace h2 := h2.below (Below.refl _ _).drew
 have k2 := H.out.2.1.frame M2.f H.out.2.2.1.symm
 have f4 := h2.at'.c7l
 have l4 := h2.at'.lt
 have g4 := k2.at'.c7l
 have k4 := k2.at'.lt
 clear hF hb
 go_upto_region 9 with fail
 go_still_tail 8, (by kernel_rfl)
 change wpList _ _ _ _ _ w2.drew
 generalize w2.drew = W at *
 have MG := Lib.hid (bmerge_w h2.bn k2.bn (fun i hi m => H.out.2.2.1 i (by simp [hi]) (by simp [m])) (by have := H.out; omega))
 clear f4 l4 g4 k4 k2
 go_wp2_with fail
 refine MG.out.mono ?_
 rintro e w5 ⟨rfl, r⟩
 obtain ⟨S', n', z', h3, m, e⟩ := h2.put r
 have R : Hid (LsjR b (b :: bS q TS S) u v sd most N lo hi M a2 d2 w w5) := ⟨_, M2.trans m, q, t, TS, s, K, S', n', z', _, _, rfl, h3, by have := H.out; omega, fun _ => by rw [if_neg HZ.out, if_neg HZ.out, ← H.out.2.2.2.2.2.2.1]; exact ends_c H.out.2.2.2.2.1⟩
 clear h2 h3 m r e MG M2
 go_wp2
 go_ret
 exact ⟨rfl, R.out⟩
end
end Go.Proofs.YtlbnlmhcpephbaaGreatDoor

namespace Go.Proofs.YtlbnlmhcpephbaaGreatDoor
open Go.RowKit
set_option maxRecDepth 100000
set_option maxHeartbeats 4000000
section
variable {w W : World} {q b t tb un vn mn zn : Nat} {TS : List Nat} {s : Bool} {K : Bool → Nat} {S : Bool → List Nat} {P : Bool → List (Int × Int)} {l n : Bool → Int} {lo hi x y : Int}
theorem bputok {z : Int} (h : BnP P l n) (hs : bN n z ≤ 8000) (hz : 0 ≤ z) (hn : ∀ i, 0 ≤ n i) (i : Bool) : PutOk (P i) ∧ 0 ≤ l i ∧ l i ≤ 8000 := by
 have h1 := h.sm i
 have h2 := h.l0 i
 have h3 := sumP_nonneg (h.gd i).1.pos
 have h4 := hn true
 have h5 := hn false
 unfold bN at hs
 have h6 : n i ≤ 8000 := by cases i <;> omega
 exact ⟨⟨(h.gd i).1, fun v hv => ((h.gd i).2.1 v hv).1, fun v hv => by have := mem_leP (h.gd i).1.pos hv; omega⟩, h2, by omega⟩
def sN (s : Bool) : Nat := if s then 0 else 1
theorem lswrite_w {l0 l1 : Nat} (h : LsC w q t tb TS s K S un vn (sdI s) mn n zn lo hi) (hP : BnP P l n) (hl : l true = l0 ∧ l false = l1) (hR : ∀ W, Below w.heap.size w W → Calls Tryz.prog 200 #[.pointer (some ⟨t, 0, none⟩)] W (RowsE (P true) (P false) W) ∧ Calls Tryz.prog 201 #[.pointer (some ⟨t, 0, none⟩)] W fun e w' => e = .returned (.tuple #[.int .u64 (l true), .int .u64 (l false)]) ∧ Below W.heap.size W w')
  (hx : I64 x) (hy : I64 y) (he : endW (bN n zn) x y = endW (bN n zn) lo hi) (h0 : bN n zn = 0 → x = 0 ∧ y = 0) (hd : un ≤ 4294967296 ∧ vn ≤ 4294967296 ∧ mn ≤ 4096) (hn : ∀ i, (P i).length ≤ 4096) (hs : bN n zn ≤ 8000) (hb : Below w.heap.size w W) (hq : Qu W b none 0 0 []) (hg : w.heap.size ≤ b) :
  Calls Tryz.prog 197 #[.agg #[pt q], pt b] W fun e w' => e = .returned (.tuple #[]) ∧ ∃ W1 A len cap, Below W.heap.size W W1 ∧ QuI W1 w' b none A len cap (natsB [un, vn, sN s, mn] ++ intsB [x, y] ++ natsB [zn, l0, l1] ++ rowB (P true) ++ rowB (P false)) := by
 obtain ⟨g, hv⟩ : ∃ g, endW (bN n zn) lo hi = .tuple #[.int .i64 x, .int .i64 y, .bool g] := by
  rw [← he]; unfold endW; split
  ·rename_i e; obtain ⟨rfl, rfl⟩ := h0 e; exact ⟨_, rfl⟩
  ·exact ⟨_, rfl⟩
 have b1 := bn W (.cells #[pt q] 105)
 have a1 := At.new W #[pt q] 105
 have cn : W.heap.size ≠ b := fun e => by have := hq.at'.lt; omega
 have EN : Hid (∀ V, Below w.heap.size w V → Calls Tryz.prog Kd.log.ends #[pt q] V fun e w' => e = .returned (.tuple #[.int .i64 x, .int .i64 y, .bool g]) ∧ Below V.heap.size V w') := fun V hV => by rw [← hv]; exact lsendz_w (h.below hV) (by omega)
 obtain ⟨sn, hsn⟩ : ∃ k, sN s = k := ⟨_, rfl⟩
 have es : sdI s = (sn : Int) := by rw [← hsn]; cases s <;> rfl
 have s1 : sn ≤ 1 := by rw [← hsn]; cases s <;> decide
 rw [es] at h
 rw [hsn]
 rw [hl.1, hl.2] at hR
 have CF := Lib.hid fun V (hV : Below w.heap.size w V) => lsconf_w (h.below hV)
 have BI := Lib.hid fun V (hV : Below w.heap.size w V) => lsbins_w (h.below hV)
 have ZR := Lib.hid fun V (hV : Below w.heap.size w V) => bzero_w (h.bn.below hV)
 have RW := Lib.hid fun V hV => (hR V hV).1
 have LO := Lib.hid fun V hV => (hR V hV).2
 have nn : ∀ i, 0 ≤ n i := fun i => by have := h.bn.bd; cases i; exact this.2.1; exact this.1
 have po := bputok hP hs (h.bn.z0) nn
 have zb : zn ≤ 8000 := by have := h.bn.bd; omega
 have lb : l0 ≤ 8000 ∧ l1 ≤ 8000 := by have := (po true).2; have := (po false).2; omega
 have Z := Lib.hid (And.intro hb (And.intro hq (And.intro hg fun i => (po i).1)))
 have D : Hid (∀ u ∈ [un, vn, sn, mn], u < 18446744073709551616) := fun u hu => by simp only [List.mem_cons, List.not_mem_nil, or_false] at hu; omega
 have D2 : Hid (∀ u ∈ [zn, l0, l1], u < 18446744073709551616) := fun u hu => by simp only [List.mem_cons, List.not_mem_nil, or_false] at hu; omega
 have XY : Hid (∀ u ∈ [x, y], I64 u) := fun u hu => by simp only [List.mem_cons, List.not_mem_nil, or_false] at hu; rcases hu with rfl | rfl; exact hx; exact hy
 obtain ⟨n0, e0⟩ : ∃ n, (P true).length = n := ⟨_, rfl⟩
 obtain ⟨n1, e1⟩ : ∃ n, (P false).length = n := ⟨_, rfl⟩
 have NN := Lib.hid (And.intro e0 e1)
 have HN : Hid (n0 ≤ 4096 ∧ n1 ≤ 4096) := ⟨by have := hn true; omega, by have := hn false; omega⟩
 unfold RowsE at RW
 rw [e0, e1] at RW
 have d1 : (0 : Int) ≤ mn ∧ (mn : Int) ≤ 4096 ∧ (0 : Int) ≤ sn ∧ (sn : Int) ≤ 1 := by omega
 clear hv he h0 h hb hq hg hn hs hx hy hd e0 e1 hP hl hR nn po es hsn lb zb s1
 go_enter Tryz.func197, Tryz.ntmps197
 have f1 := a1.one
 have l1' := a1.lt
 go_wp2_with fail
 generalize W.alloc _ = W1 at *
 obtain ⟨c, hc⟩ : ∃ c, W.heap.size = c := ⟨_, rfl⟩
 rw [hc] at a1 f1 l1' cn
 simp only [hc]
 refine (CF.out W1 (keep1 Z.out.1 b1)).mono ?_
 rintro e w2 ⟨rfl, hb⟩
 have b2 := keep1 (keep1 b1 hb) (bn w2 (.cells #[.int .u64 (un : Int), .int .u64 (vn : Int), .int .i64 (sn : Int), .int .i64 (mn : Int)] 103))
 have a2 := (a1.below hb).below (bn w2 (.cells #[.int .u64 (un : Int), .int .u64 (vn : Int), .int .i64 (sn : Int), .int .i64 (mn : Int)] 103))
 have aF := At.new w2 #[.int .u64 (un : Int), .int .u64 (vn : Int), .int .i64 (sn : Int), .int .i64 (mn : Int)] 103
 have f2 := a2.one
 have l2 := a2.lt
 clear f1 l1' CF hb a1 b1 hc
 go_wp2_with fail
 generalize w2.alloc _ = W2 at *
 obtain ⟨fB, hf⟩ : ∃ c, w2.heap.size = c := ⟨_, rfl⟩
 rw [hf] at aF
 simp only [hf]
 clear hf
 refine (EN.out W2 (keep1 Z.out.1 b2)).mono ?_
 rintro e w3 ⟨rfl, hb⟩
 replace b2 := keep1 b2 hb
 replace a2 := a2.below hb
 replace aF := aF.below hb
 have f3 := a2.one
 have l3 := a2.lt
 clear f2 l2 EN hb
 go_wp2_with fail
 refine (BI.out w3 (keep1 Z.out.1 b2)).mono ?_
 rintro e w4 ⟨rfl, rfl⟩
 go_wp2_with fail
 refine (RW.out w3 (keep1 Z.out.1 b2)).mono ?_
 rintro e w4 ⟨⟨A0, c0, A1, c1, rfl, r0, r1⟩, hb⟩
 replace b2 := keep1 b2 hb
 replace a2 := a2.below hb
 replace aF := aF.below hb
 have f4 := a2.one
 have l4 := a2.lt
 clear f3 l3 RW hb
 go_wp2_with fail
 refine (BI.out w4 (keep1 Z.out.1 b2)).mono ?_
 rintro e w5 ⟨rfl, rfl⟩
 go_wp2_with fail
 refine (LO.out w4 (keep1 Z.out.1 b2)).mono ?_
 rintro e w5 ⟨rfl, hb⟩
 replace b2 := keep1 b2 hb
 have R0 := Lib.hid (And.intro (r0.below hb) (r1.below hb))
 have J := Lib.hid (WqS.start (keep1 Z.out.1 b2) (a2.below hb) (Qu.below Z.out.2.1 b2) cn Z.out.2.2.1)
 have B1 := Lib.hid b2
 replace aF := aF.below hb
 have f5 := aF.c4
 have l5 := aF.lt
 have N := Lib.hid (J.out.nats (n := 4) [un, vn, sn, mn] D.out rfl (by omega))
 clear hb a2 f4 l4 b2 cn r0 r1 LO J
 go_wp2_with fail
 refine N.out.mono ?_
 rintro e w7 ⟨rfl, J⟩
 have N := Lib.hid (J.ints (n := 2) [x, y] XY.out rfl (by omega))
 clear J f5 l5 aF
 go_wp2_with fail
 refine N.out.mono ?_
 rintro e w8 ⟨rfl, J⟩
 have f8 := J.a.one
 have l8 := J.a.lt
 have J := Lib.hid J
 clear N
 go_wp2_with fail
 refine (BI.out w8 J.out.bw).mono ?_
 rintro e w9 ⟨rfl, rfl⟩
 go_wp2_with fail
 refine (ZR.out w8 J.out.bw).mono ?_
 rintro e w9 ⟨rfl, rfl⟩
 have N := Lib.hid (J.out.nats (n := 3) [zn, l0, l1] D2.out rfl (by omega))
 clear f8 l8 J ZR
 go_wp2_with fail
 refine N.out.mono ?_
 rintro e wa ⟨rfl, J⟩
 have N := Lib.hid (J.row_old (cL := c0) R0.out.1 NN.out.1 (Z.out.2.2.2 true) (by have := HN.out; omega))
 clear J
 go_wp2_with fail
 refine N.out.mono ?_
 rintro e wb ⟨rfl, J⟩
 have N := Lib.hid (J.row_old (cL := c1) R0.out.2 NN.out.2 (Z.out.2.2.2 false) (by have := HN.out; omega))
 clear J
 go_wp2_with fail
 refine N.out.mono ?_
 rintro e wc ⟨rfl, J⟩
 have R := Lib.hid (J.fin B1.out)
 clear N J
 go_wp2
 exact bodyPost_end (results_none rfl _ _ _) rfl ⟨rfl, by simpa using R.out⟩
end
end Go.Proofs.YtlbnlmhcpephbaaGreatDoor
