/- Texts of this claim, joined, indents halved: ELuP, ESu4, ESuW, EDg0, EDgP, EDg1. -/
import Derived.Test.YtlbnlmhcpephbaaGreatDoorProg
import Derived.StillTailTactics
import Derived.Test.YtlbnlmhcpephbaaGreatDoorKe10
namespace Go.Proofs.YtlbnlmhcpephbaaGreatDoor
abbrev Lu := Int × Int × Int
def lless (a b : Int × Int) : Prop := a.1 < b.1 ∨ a.1 = b.1 ∧ a.2 < b.2
instance (a b : Int × Int) : Decidable (lless a b) := by unfold lless; infer_instance
def ordV (a b : Int × Int) : Int := if lless a b then -1 else if a = b then 0 else 1
theorem ordV_le {a b : Int × Int} (h : ordV a b < 0) : lless a b := by unfold ordV at h; grind
def sumN (ls : List Lu) : Int := (ls.map fun x => x.1).sum
def I64 (x : Int) : Prop := -9223372036854775808 ≤ x ∧ x ≤ 9223372036854775807
structure LuS (ls : List Lu) (n : Int) : Prop where
 srt : ls.Pairwise fun a b => lless a.2 b.2
 pos : ∀ x ∈ ls, 0 < x.1 ∧ I64 x.2.1 ∧ I64 x.2.2
 sum : sumN ls = n
structure LuN (vs : List (Int × Int)) (lo hi : Int) : Prop where
 lo1 : ∀ v ∈ vs, lo ≤ v.1
 hi1 : ∀ v ∈ vs, v.2 ≤ hi
 lo2 : vs = [] ∨ ∃ v ∈ vs, v.1 = lo
 hi2 : vs = [] ∨ ∃ v ∈ vs, v.2 = hi
def LuG (ls : List Lu) (n lo hi : Int) : Prop := LuS ls n ∧ LuN (ls.map (·.2)) lo hi
def LuL (ls : List Lu) (v : Int × Int) (ls' : List Lu) : Prop := ∀ u, u ∈ ls'.map (·.2) ↔ u = v ∨ u ∈ ls.map (·.2)
theorem sumN_append (ls ks : List Lu) : sumN (ls ++ ks) = sumN ls + sumN ks := by simp [sumN]
theorem sumN_cons (x : Lu) (ls : List Lu) : sumN (x :: ls) = x.1 + sumN ls := by simp [sumN]
theorem sumN_len : ∀ {ls : List Lu}, (∀ x ∈ ls, 0 < x.1) → (ls.length : Int) ≤ sumN ls
 | [], _ => by simp [sumN]
 | x :: ls, h => by have := h x (by simp); have := sumN_len (ls := ls) fun y hy => h y (by simp [hy]); rw [sumN_cons]; simp; omega
theorem sumN_ge : ∀ {ls : List Lu}, (∀ x ∈ ls, 0 < x.1) → ∀ x ∈ ls, x.1 ≤ sumN ls
  | y :: ls, h, x, hx => by
    have h1 := h y (by simp)
    have h2 := sumN_len (ls := ls) fun z hz => h z (by simp [hz])
    rw [sumN_cons]
    rcases List.mem_cons.1 hx with rfl | hx
    · omega
    · have := sumN_ge (fun z hz => h z (by simp [hz])) x hx; omega
section
variable {ls ls' us vs : List Lu} {n lo hi : Int} {l a b : Lu} {k : Nat}
theorem LuS.nil : LuS [] 0 := ⟨.nil, by simp, rfl⟩
theorem LuS.len (h : LuS ls n) : (ls.length : Int) ≤ n := h.sum ▸ sumN_len fun x hx => (h.pos x hx).1
theorem LuN.lay {vs vs' : List (Int × Int)} {v : Int × Int} (h : LuN vs lo hi) (h' : ∀ u, u ∈ vs' ↔ u = v ∨ u ∈ vs) (h0 : n = 0 ↔ vs = []) : LuN vs' (lowE n lo v.1) (highE n hi v.2) := by
 obtain ⟨p, q, r, s⟩ := h
 unfold lowE highE
 by_cases hn : n = 0
 ·obtain rfl := h0.1 hn
  rw [if_pos hn, if_pos hn]
  refine ⟨?_, ?_, .inr ⟨v, by grind⟩, .inr ⟨v, by grind⟩⟩ <;> grind
 ·have : vs ≠ [] := fun e => hn (h0.2 e)
  rw [if_neg hn, if_neg hn]
  obtain ⟨x, hx, ex⟩ := r.resolve_left this
  obtain ⟨y, hy, ey⟩ := s.resolve_left this
  refine ⟨?_, ?_, .inr ?_, .inr ?_⟩
  ·intro u hu; rcases (h' u).1 hu with rfl | hu
   ·omega
   ·have := p u hu; omega
  ·intro u hu; rcases (h' u).1 hu with rfl | hu
   ·omega
   ·have := q u hu; omega
  ·by_cases c : v.1 < lo
   ·exact ⟨v, (h' v).2 (.inl rfl), by omega⟩
   ·exact ⟨x, (h' x).2 (.inr hx), by omega⟩
  ·by_cases c : hi < v.2
   ·exact ⟨v, (h' v).2 (.inl rfl), by omega⟩
   ·exact ⟨y, (h' y).2 (.inr hy), by omega⟩
theorem LuN.congr {vs vs' : List (Int × Int)} (h : LuN vs lo hi) (h' : ∀ u, u ∈ vs' ↔ u ∈ vs) : LuN vs' lo hi := by
 obtain ⟨p, q, r, s⟩ := h
 have e : vs = [] → vs' = [] := fun e => List.eq_nil_iff_forall_not_mem.2 fun u hu => by have := (h' u).1 hu; simp [e] at this
 exact ⟨fun v hv => p v ((h' v).1 hv), fun v hv => q v ((h' v).1 hv), r.imp e fun ⟨v, hv, k⟩ => ⟨v, (h' v).2 hv, k⟩, s.imp e fun ⟨v, hv, k⟩ => ⟨v, (h' v).2 hv, k⟩⟩
theorem LuN.join {vs us vs' : List (Int × Int)} {m lo2 hi2 : Int} (h : LuN vs lo hi) (k : LuN us lo2 hi2) (h' : ∀ u, u ∈ vs' ↔ u ∈ vs ∨ u ∈ us) (h0 : n = 0 ↔ vs = []) (m0 : m = 0 ↔ us = []) : LuN vs' (if m = 0 then lo else lowE n lo lo2) (if m = 0 then hi else highE n hi hi2) := by
 by_cases hm : m = 0
 ·rw [if_pos hm, if_pos hm]
  exact h.congr fun u => by rw [h', m0.1 hm]; simp
 rw [if_neg hm, if_neg hm]
 unfold lowE highE
 by_cases hn : n = 0
 ·rw [if_pos hn, if_pos hn]
  exact k.congr fun u => by rw [h', h0.1 hn]; simp
 rw [if_neg hn, if_neg hn]
 obtain ⟨x, hx, ex⟩ := h.lo2.resolve_left fun e => hn (h0.2 e)
 obtain ⟨y, hy, ey⟩ := h.hi2.resolve_left fun e => hn (h0.2 e)
 obtain ⟨x', hx', ex'⟩ := k.lo2.resolve_left fun e => hm (m0.2 e)
 obtain ⟨y', hy', ey'⟩ := k.hi2.resolve_left fun e => hm (m0.2 e)
 refine ⟨fun u hu => ?_, fun u hu => ?_, .inr ?_, .inr ?_⟩
 ·rcases (h' u).1 hu with a | a
  ·have := h.lo1 u a; omega
  ·have := k.lo1 u a; omega
 ·rcases (h' u).1 hu with a | a
  ·have := h.hi1 u a; omega
  ·have := k.hi1 u a; omega
 ·by_cases c : lo2 < lo
  ·exact ⟨x', (h' _).2 (.inr hx'), by omega⟩
  ·exact ⟨x, (h' _).2 (.inl hx), by omega⟩
 ·by_cases c : hi < hi2
  ·exact ⟨y', (h' _).2 (.inr hy'), by omega⟩
  ·exact ⟨y, (h' _).2 (.inl hy), by omega⟩
theorem LuG.zero (h : LuG ls n lo hi) : n = 0 ↔ ls.map (·.2) = [] := ⟨fun e => by have := h.1.len; simp only [List.map_eq_nil_iff]; exact List.eq_nil_of_length_eq_zero (by omega), fun e => by simp only [List.map_eq_nil_iff] at e; have := h.1.sum; subst e; exact this.symm⟩
theorem sumN_take {k : Nat} (hk : k < ls.length) : sumN (ls.take (k + 1)) = sumN (ls.take k) + ls[k].1 := by rw [List.take_succ_eq_append_getElem hk, sumN_append, sumN_cons]; simp [sumN]
theorem LuS.take (h : LuS ls n) (k : Nat) : 0 ≤ sumN (ls.take k) ∧ sumN (ls.take k) ≤ n := by
 have a := sumN_len (ls := ls.take k) fun x hx => (h.pos x (List.mem_of_mem_take hx)).1
 have b := sumN_len (ls := ls.drop k) fun x hx => (h.pos x (List.mem_of_mem_drop hx)).1
 have := h.sum
 rw [← List.take_append_drop k ls, sumN_append] at this
 omega
theorem LuS.lay (h : LuS ls n) (p : Pos (fun i => ordV (ls.getD i (0, 0, 0)).2 l.2) ls.length k) (hl : 0 < l.1 ∧ I64 l.2.1 ∧ I64 l.2.2) :
  (∀ hk : k < ls.length, ls[k].2 = l.2 → LuS (ls.set k (ls[k].1 + l.1, l.2)) (n + l.1) ∧ LuL ls l.2 (ls.set k (ls[k].1 + l.1, l.2))) ∧ ((∀ hk : k < ls.length, ls[k].2 ≠ l.2) → LuS (ls.take k ++ l :: ls.drop k) (n + l.1) ∧ LuL ls l.2 (ls.take k ++ l :: ls.drop k)) := by
 obtain ⟨sr, po, ss⟩ := h
 have t := List.take_append_drop k ls
 have gi : ∀ i (hi : i < ls.length), ls.getD i (0, 0, 0) = ls[i] := fun i hi => by rw [List.getD_eq_getElem?_getD, List.getElem?_eq_getElem hi]; rfl
 refine ⟨fun hk e => ?_, fun hn => ?_⟩
 ·have d := List.drop_eq_getElem_cons hk
  have t' := t
  rw [d] at t
  have hx := po _ (List.getElem_mem hk)
  rw [List.set_eq_take_append_cons_drop, if_pos hk]
  generalize ls[k] = x at *
  generalize ls.take k = us at *
  generalize ls.drop (k + 1) = vs at *
  subst t
  rw [sumN_append, sumN_cons] at ss
  refine ⟨⟨?_, fun y hy => ?_, by rw [sumN_append, sumN_cons]; dsimp only; omega⟩, fun u => by simp; grind⟩
  ·simp only [List.pairwise_append, List.pairwise_cons, List.mem_cons] at sr ⊢
   rw [← e]
   grind
  ·simp only [List.mem_append, List.mem_cons] at hy po
   rcases hy with hy | rfl | hy
   ·exact po y (.inl hy)
   ·dsimp only; exact ⟨by omega, hl.2⟩
   ·exact po y (.inr (.inr hy))
 ·have ss' := ss
  rw [← t, sumN_append] at ss'
  have h1 : ∀ u ∈ ls.take k, lless u.2 l.2 := fun u hu => by
   obtain ⟨i, hi, rfl⟩ := List.getElem_of_mem hu
   rw [List.length_take] at hi
   have := p.lo i (by omega)
   rw [gi i (by omega)] at this
   rw [List.getElem_take]
   exact ordV_le this
  have h2 : ∀ u ∈ ls.drop k, lless l.2 u.2 := fun u hu => by
   obtain ⟨i, hi, rfl⟩ := List.getElem_of_mem hu
   rw [List.length_drop] at hi
   have a := p.hi k (Nat.le_refl _) (by omega)
   have b := hn (by omega)
   rw [gi k (by omega)] at a
   rw [List.getElem_drop]
   have c : i = 0 ∨ lless ls[k].2 ls[k + i].2 := by
    rcases Nat.eq_zero_or_pos i with e | e
    ·exact .inl e
    ·exact .inr (List.pairwise_iff_getElem.1 sr k (k + i) (by omega) (by omega) (by omega))
   have q : lless l.2 ls[k].2 := by unfold ordV at a; unfold lless at *; grind
   rcases c with rfl | c
   ·exact q
   ·unfold lless at *; omega
  have sr' := sr
  rw [← t] at sr' po
  refine ⟨⟨?_, fun y hy => ?_, by rw [sumN_append, sumN_cons]; omega⟩, fun u => ?_⟩
  ·simp only [List.pairwise_append, List.pairwise_cons, List.mem_cons] at sr' ⊢
   grind
  ·simp only [List.mem_append, List.mem_cons] at hy po
   rcases hy with hy | rfl | hy
   ·exact po y (.inl hy)
   ·exact hl
   ·exact po y (.inr hy)
  ·have e : ls.map (·.2) = (ls.take k).map (·.2) ++ (ls.drop k).map (·.2) := by rw [← List.map_append, t]
   rw [e, List.map_append, List.map_cons]
   simp only [List.mem_append, List.mem_cons]
   grind
theorem LuS.out (h : LuS (us ++ a :: b :: vs) n) : LuS (us ++ vs) (n - (a.1 + b.1)) ∧ a.1 + b.1 ≤ n ∧ 0 < a.1 ∧ 0 < b.1 ∧ I64 a.2.1 ∧ I64 (max a.2.2 b.2.2) := by
 obtain ⟨sr, po, ss⟩ := h
 have ha := po a (by simp)
 have hb := po b (by simp)
 have h1 : ∀ x ∈ us ++ vs, 0 < x.1 ∧ I64 x.2.1 ∧ I64 x.2.2 := fun x hx => po x (by grind)
 have h2 := sumN_len fun x hx => (h1 x hx).1
 rw [sumN_append, sumN_cons, sumN_cons] at ss
 rw [sumN_append] at h2
 refine ⟨⟨?_, h1, by rw [sumN_append]; omega⟩, by omega, ha.1, hb.1, ha.2.1, ?_⟩
 ·simp only [List.pairwise_append, List.pairwise_cons, List.mem_cons] at sr ⊢
  grind
 ·unfold I64 at *; omega
theorem LuG.press (h : LuG (us ++ a :: b :: vs) n lo hi) (h' : LuL (us ++ vs) (a.2.1, max a.2.2 b.2.2) ls') : LuN (ls'.map (·.2)) lo hi := by
 obtain ⟨⟨sr, _, _⟩, p, q, r, s⟩ := h
 have ab : a.2.1 ≤ b.2.1 := by
  simp only [List.pairwise_append, List.pairwise_cons, List.mem_cons] at sr
  have := sr.2.1.1 b (.inl rfl)
  unfold lless at this
  omega
 simp only [List.map_append, List.map_cons, List.mem_append, List.mem_cons, List.append_eq_nil_iff, reduceCtorEq, and_false, false_or] at p q r s
 unfold LuL at h'
 simp only [List.map_append, List.mem_append] at h'
 have pa := p a.2 (by simp)
 have qa := q a.2 (by simp)
 have qb := q b.2 (by simp)
 refine ⟨fun v hv => ?_, fun v hv => ?_, .inr ?_, .inr ?_⟩
 ·rcases (h' v).1 hv with rfl | h
  ·exact pa
  ·exact p v (by grind)
 ·rcases (h' v).1 hv with rfl | h
  ·dsimp only; omega
  ·exact q v (by grind)
 ·obtain ⟨x, hx, e⟩ := r
  rcases hx with hx | rfl | rfl | hx
  ·exact ⟨x, (h' x).2 (by simp [hx]), e⟩
  ·exact ⟨_, (h' _).2 (.inl rfl), e⟩
  ·exact ⟨_, (h' _).2 (.inl rfl), by dsimp only; omega⟩
  ·exact ⟨x, (h' x).2 (by simp [hx]), e⟩
 ·obtain ⟨x, hx, e⟩ := s
  rcases hx with hx | rfl | rfl | hx
  ·exact ⟨x, (h' x).2 (by simp [hx]), e⟩
  ·exact ⟨_, (h' _).2 (.inl rfl), by dsimp only; omega⟩
  ·exact ⟨_, (h' _).2 (.inl rfl), by dsimp only; omega⟩
  ·exact ⟨x, (h' x).2 (by simp [hx]), e⟩
end
end Go.Proofs.YtlbnlmhcpephbaaGreatDoor

namespace Go.Proofs.YtlbnlmhcpephbaaGreatDoor
open Go.RowKit
set_option maxRecDepth 100000
def En (l : List (Int × Int)) (lo hi : Int) : Prop := (I64 lo ∧ I64 hi) ∧ (∀ v ∈ l, lo ≤ v.1 ∧ v.1 ≤ hi) ∧ (l ≠ [] → (∃ v ∈ l, v.1 = lo) ∧ ∃ v ∈ l, v.1 = hi)
theorem LOk.zero {l : List (Int × Int)} (h : LOk l) : sumP l = 0 ↔ l = [] := by
  refine ⟨fun e => ?_, fun e => by subst e; rfl⟩
  cases l with
  | nil => rfl
  | cons x l =>
    have h1 := h.pos x (by simp)
    have h2 := (show LOk l from ⟨fun y hy => h.ok y (by simp [hy]), fun y hy => h.pos y (by simp [hy]), by have := h.len; simp only [List.length_cons] at this; omega⟩).sum
    simp only [sumP, List.map_cons, List.sum_cons] at e h2
    omega
theorem En.nil : En [] 0 0 := ⟨by unfold I64; omega, by simp, fun h => absurd rfl h⟩
theorem En.snoc {l : List (Int × Int)} {lo hi x n : Int} (h : En l lo hi) (k : LOk l) (hx : I64 x) : En (l ++ [(x, n)]) (lowE (sumP l) lo x) (highE (sumP l) hi x) := by
 obtain ⟨h1, h2, h3⟩ := h
 unfold lowE highE
 by_cases e : l = []
 ·subst e
  rw [if_pos (k.zero.2 rfl), if_pos (k.zero.2 rfl)]
  exact ⟨⟨hx, hx⟩, by simp, fun _ => by simp⟩
 ·rw [if_neg fun z => e (k.zero.1 z), if_neg fun z => e (k.zero.1 z)]
  obtain ⟨⟨u, hu, eu⟩, v, hv, ev⟩ := h3 e
  refine ⟨by unfold I64 at *; omega, fun y hy => ?_, fun _ => ⟨?_, ?_⟩⟩
  ·rcases List.mem_append.1 hy with a | a
   ·have := h2 y a; omega
   ·rw [List.mem_singleton] at a; subst a; dsimp only; omega
  ·rcases Int.le_total lo x with a | a
   ·exact ⟨u, by simp [hu], by omega⟩
   ·exact ⟨(x, n), by simp, by dsimp only; omega⟩
  ·rcases Int.le_total x hi with a | a
   ·exact ⟨v, by simp [hv], by omega⟩
   ·exact ⟨(x, n), by simp, by dsimp only; omega⟩
theorem En.app {l l' : List (Int × Int)} {lo hi lo2 hi2 : Int} (h : En l lo hi) (h' : En l' lo2 hi2) (k : LOk (l ++ l')) : En (l ++ l') (if sumP l' = 0 then lo else lowE (sumP l) lo lo2) (if sumP l' = 0 then hi else highE (sumP l) hi hi2) := by
 by_cases e' : l' = []
 ·subst e'
  rw [if_pos (show sumP [] = 0 from rfl), if_pos (show sumP [] = 0 from rfl), List.append_nil]
  exact h
 rw [if_neg fun z => e' (k.right.zero.1 z), if_neg fun z => e' (k.right.zero.1 z)]
 obtain ⟨h1, h2, h3⟩ := h
 obtain ⟨k1, k2, k3⟩ := h'
 obtain ⟨⟨p, hp, ep⟩, r, hr, er⟩ := k3 e'
 unfold lowE highE
 by_cases e : l = []
 ·subst e
  rw [if_pos (show sumP [] = 0 from rfl), if_pos (show sumP [] = 0 from rfl), List.nil_append]
  exact ⟨k1, k2, k3⟩
 ·rw [if_neg fun z => e (k.left.zero.1 z), if_neg fun z => e (k.left.zero.1 z)]
  obtain ⟨⟨u, hu, eu⟩, v, hv, ev⟩ := h3 e
  refine ⟨by unfold I64 at *; omega, fun y hy => ?_, fun _ => ⟨?_, ?_⟩⟩
  ·rcases List.mem_append.1 hy with a | a
   ·have := h2 y a; omega
   ·have := k2 y a; omega
  ·rcases Int.le_total lo lo2 with a | a
   ·exact ⟨u, by simp [hu], by omega⟩
   ·exact ⟨p, by simp [hp], by omega⟩
  ·rcases Int.le_total hi2 hi with a | a
   ·exact ⟨v, by simp [hv], by omega⟩
   ·exact ⟨r, by simp [hr], by omega⟩
structure KindE (c : Cfg) (Sk : SkT) : Prop extends KindC c Sk where
 tot : ∀ b S l w, Sk w b S l → LOk l → Calls Tryz.prog 24 #[pt b] w fun e w' => e = .returned (.int .u64 (sumP l)) ∧ Below w.heap.size w w'
 ends : ∀ b S l w, Sk w b S l → LOk l → Calls Tryz.prog 22 #[pt b] w fun e w' => (∃ lo hi, e = .returned (endW (sumP l) lo hi) ∧ En l lo hi) ∧ Below w.heap.size w w'
abbrev CoT := World → Nat → List Nat → Nat → Int → Int → Int → Prop
def CoP (X : CoT) (q : Nat) (Q : List Nat) (m : Nat) (N lo hi x n : Int) (w : World) (e : Ending) (w' : World) : Prop :=
 ∃ f : Int, e = .returned (.int .i64 f) ∧ (f ≠ 0 ∧ (∃ Q', Mv Q Q' w w' ∧ X w' q Q' m N lo hi) ∨ f = 0 ∧ 0 < n ∧ ∃ Q', Mv Q Q' w w' ∧ X w' q Q' (m + 1) (N + n) (lowE N lo x) (highE N hi x))
def CoJ (X : CoT) (q : Nat) (Q : List Nat) (m : Nat) (N lo hi : Int) (m2 : Nat) (M lo2 hi2 : Int) (w : World) (e : Ending) (w' : World) : Prop :=
 ∃ f : Int, e = .returned (.int .i64 f) ∧ (f ≠ 0 ∧ Frame Q w w' ∨ f = 0 ∧ ∃ Q', Mv Q Q' w w' ∧ X w' q Q' (m + m2) (N + M) (if M = 0 then lo else lowE N lo lo2) (if M = 0 then hi else highE N hi hi2))
structure CoreW (k : Kd) (pn pd sd mo dg li de fa wi wo : Int) (X : CoT) : Prop where
 frame : ∀ {w w' q Q T m N lo hi}, X w q Q m N lo hi → Frame T w w' → Apart Q T → X w' q Q m N lo hi
 lt : ∀ {w q Q m N lo hi}, X w q Q m N lo hi → ∀ j ∈ Q, j < w.heap.size
 new : ∀ w, TensAt w → Calls Tryz.prog k.new (k.arg pn pd sd mo dg li de fa wi wo) w (NwC (fun W q Q => X W q Q 0 0 0 0) w)
 put : ∀ {w q Q m N lo hi} (x n : Int), X w q Q m N lo hi → m < 360 → I64 x → 0 ≤ n → N + n ≤ 7220 → n ≤ 20 → Calls Tryz.prog k.put #[pt q, .int .i64 x, .int .u64 n] w (CoP X q Q m N lo hi x n w)
 join : ∀ {w q Q m N lo hi r R m2 M lo2 hi2}, X w q Q m N lo hi → X w r R m2 M lo2 hi2 → Apart Q R → m + m2 ≤ 360 → N + M ≤ 7200 → I64 lo2 → I64 hi2 → Calls Tryz.prog k.join #[pt q, pt r] w (CoJ X q Q m N lo hi m2 M lo2 hi2 w)
 tot : ∀ {w q Q m N lo hi}, X w q Q m N lo hi → N ≤ 7200 → Calls Tryz.prog k.ctot #[.agg #[pt q]] w fun e w' => e = .returned (.int .u64 N) ∧ Below w.heap.size w w'
 ends : ∀ {w q Q m N lo hi}, X w q Q m N lo hi → N ≤ 7200 → Calls Tryz.prog k.ends #[pt q] w fun e w' => e = .returned (endW N lo hi) ∧ Below w.heap.size w w'
 code : ∀ {w q Q m N lo hi}, X w q Q m N lo hi → m ≤ 360 → N ≤ 7200 → I64 lo → I64 hi → ∃ load : List UInt8, load.length ≤ 262144 ∧ load ≠ [] ∧
  (∀ W qb, Below w.heap.size w W → Qu W qb none 0 0 [] → w.heap.size ≤ qb → Calls Tryz.prog k.cwrite #[.agg #[pt q], pt qb] W fun e w' => e = .returned (.tuple #[]) ∧ ∃ W1 A len cap, Below W.heap.size W W1 ∧ QuI W1 w' qb none A len cap load) ∧
  ∀ W eb, TensAt W → Eye W eb load → Calls Tryz.prog k.read #[pt eb] W (RdF eb (.agg (CR k.n pn pd sd mo dg li de fa wi wo)) k.T (fun W q Q => X W q Q m N lo hi) W)
section
variable {k : Kd} {pn pd sd mo dg li de fa wi wo : Int} {X : CoT}
def SkX (k : Kd) (pn pd sd mo dg li de fa wi wo : Int) (X : CoT) (w : World) (b : Nat) (S : List Nat) (l : List (Int × Int)) : Prop :=
 ∃ q Q lo hi, S = b :: Q ∧ b ∉ Q ∧ At w b #[.int .i64 k.n, .int .u64 pn, .int .u64 pd, .int .i64 sd, .int .i64 mo, .int .i64 dg, .int .u64 li, .int .i64 de, .int .i64 fa, .int .i64 wi, .int .u64 wo, .iface k.T (.agg #[pt q])] 79 ∧ X w q Q l.length (sumP l) lo hi ∧ En l lo hi
theorem SkX.of {w w' : World} {b q : Nat} {Q Q' : List Nat} {l : List (Int × Int)} {lo hi : Int} (hb : b ∉ Q) (ha : At w b #[.int .i64 k.n, .int .u64 pn, .int .u64 pd, .int .i64 sd, .int .i64 mo, .int .i64 dg, .int .u64 li, .int .i64 de, .int .i64 fa, .int .i64 wi, .int .u64 wo, .iface k.T (.agg #[pt q])] 79)
  (m : Mv Q Q' w w') (hx : X w' q Q' l.length (sumP l) lo hi) (he : En l lo hi) : GrowR (SkX k pn pd sd mo dg li de fa wi wo X) b (b :: Q) l w w' := by
 obtain ⟨n1, n2⟩ := grown_sk hb ha.lt m.g
 exact ⟨b :: Q', n2, ⟨q, Q', lo, hi, rfl, n1, m.f.at ha hb, hx, he⟩, m.f.mono fun j hj => by simp [hj]⟩
theorem kindE_of (C : CoreW k pn pd sd mo dg li de fa wi wo X) (hp : BareP k.n pn pd sd mo dg li de fa wi wo pn pd sd mo dg li de fa wi wo) : KindE (Cfg.mk k.n pn pd sd mo dg li de fa wi wo) (SkX k pn pd sd mo dg li de fa wi wo X) where
 frame := by
  rintro w w' b S T l ⟨q, Q, lo, hi, rfl, hb, ha, hx, he⟩ hF hn
  exact ⟨q, Q, lo, hi, rfl, hb, hF.at ha (hn b (by simp)), C.frame hx hF fun j hj => hn j (by simp [hj]), he⟩
 lt := by
  rintro w b S l ⟨q, Q, lo, hi, rfl, hb, ha, hx, he⟩ j hj
  rcases List.mem_cons.1 hj with rfl | hj
  ·exact ha.lt
  ·exact C.lt hx j hj
 mem := by
  rintro w b S l ⟨q, Q, lo, hi, rfl, _⟩
  simp
 new w hT := by
  refine (sknew_at k.n pn pd sd mo dg li de fa wi wo k.T (fun W q Q => X W q Q 0 0 0 0) True (.iface k.T (.agg #[.pointer none])) (fun W W' q Q S h hF hn => C.frame h hF hn) w (fun W => sbare_w k.n pn pd sd mo dg li de fa wi wo pn pd sd mo dg li de fa wi wo W hp) (fun W hW => sfresh_w k pn pd sd mo dg li de fa wi wo (fun W q Q => X W q Q 0 0 0 0) True W fun W' hW' => (C.new W' ((hT.below hW).below hW')).mono fun _ _ h => h.g)).mono ?_
  rintro e w' ⟨⟨b, q, Q, rfl, hW, hb, hat, hV⟩ | ⟨f, hf, rfl⟩, hB⟩
  ·exact ⟨.inl ⟨b, b :: Q, rfl, hW, q, Q, 0, 0, rfl, hb, hat, hV, En.nil⟩, hB⟩
  ·exact ⟨.inr ⟨f, hf.1, rfl⟩, hB⟩
 put := by
  rintro b S l x n w ⟨q, Q, lo, hi, rfl, hb, ha, hx, he⟩ hl hlen hxx hn
  refine sput_at b q k.T k.put _ _ _ _ _ _ _ _ _ _ _ x n w (fun f w' => (f = 0 ∧ 0 < n ∧ GrowR (SkX k pn pd sd mo dg li de fa wi wo X) b (b :: Q) (l ++ [(x, n)]) w w') ∨ (f ≠ 0 ∧ GrowR (SkX k pn pd sd mo dg li de fa wi wo X) b (b :: Q) l w w')) ha (m_put k q) ?_
  refine (C.put x n hx hlen hxx hn.1 (by have := hl.sum; omega) hn.2).mono ?_
  rintro e w' ⟨f, rfl, ⟨hf, Q', m, h⟩ | ⟨rfl, h0, Q', m, h⟩⟩
  ·exact ⟨f, rfl, .inr ⟨hf, SkX.of hb ha m h he⟩⟩
  ·refine ⟨0, rfl, .inl ⟨rfl, h0, SkX.of hb ha m (lo := lowE (sumP l) lo x) (hi := highE (sumP l) hi x) ?_ (he.snoc hl hxx)⟩⟩
   rw [List.length_append, sumP_append, show sumP [(x, n)] = n by simp [sumP]]
   exact h
 code := by
  rintro b S l w ⟨q, Q, lo, hi, rfl, hb, ha, hx, he⟩ hl
  obtain ⟨load, h1, h2, hw, hr⟩ := C.code hx hl.len hl.sum.2 he.1.1 he.1.2
  refine (sencode_at b k.n k.T _ k.cwrite load _ _ _ _ _ _ _ _ _ _ w ha (m_write k q) h1 h2 (by cases k <;> decide) fun W qb hW hq hqb => hw W qb hW hq hqb).mono fun e w' h => ?_
  refine ⟨_, 0, h.1, h.2, fun W hT => ?_⟩
  have hX : ∀ W W' q Q S, X W q Q l.length (sumP l) lo hi → Frame S W W' → Apart Q S → X W' q Q l.length (sumP l) lo hi := fun W W' q Q S hx hF hn => C.frame hx hF hn
  refine (sdecode_or k.n load k.n pn pd sd mo dg li de fa wi wo k.T (fun W q Q => X W q Q l.length (sumP l) lo hi) hX W hT (by cases k <;> decide) h1 fun W' eb hT' hE => ?_).mono fun e' w'' hD => ?_
  ·exact sreads_w k eb k.n pn pd sd mo dg li de fa wi wo _ _ hX W' (At.lt hE) fun W2 hb2 => hr W2 eb (hT'.below hb2) (hE.below hb2)
  ·rcases hD with ⟨⟨b', q', Q', h1, h2, h3, h4, h5⟩, h6⟩ | ⟨⟨f, hf, he'⟩, h6⟩
   ·exact ⟨.inl ⟨b', b' :: Q', h1, h2, q', Q', lo, hi, rfl, h3, h4, h5, he⟩, h6⟩
   ·exact ⟨.inr ⟨f, hf, he'⟩, h6⟩
 join := by
  rintro b o S T l l' w ⟨q, Q, lo, hi, rfl, hb, ha, hx, he⟩ ⟨r, R, lo2, hi2, rfl, ho, ha', hx', he'⟩ ap hl
  have hapQ : Apart Q (o :: R) := fun j hj => ap j (by simp [hj])
  have hoQ : o ∉ Q := fun hm => hapQ o hm (by simp)
  have hapR : Apart Q R := fun j hj hm => hapQ j hj (by simp [hm])
  have hlen := hl.len
  have hsum := hl.sum
  rw [List.length_append] at hlen
  rw [sumP_append] at hsum
  refine (sjoin_at b o q r k.T _ k.n _ _ _ _ _ _ _ _ _ _ _ _ _ _ _ _ _ _ _ _ Q (fun W f w' => f ≠ 0 ∨ f = 0 ∧ ∃ Q', Mv Q Q' W w' ∧ X w' q Q' (l ++ l').length (sumP (l ++ l')) (if sumP l' = 0 then lo else lowE (sumP l) lo lo2) (if sumP l' = 0 then hi else highE (sumP l) hi hi2)) w ha ha' hb hoQ (m_join k q) fun W hW => ?_).mono ?_
  ·refine (cjoin_w k q r Q (fun W f w' => f ≠ 0 ∨ f = 0 ∧ ∃ Q', Mv Q Q' W w' ∧ X w' q Q' (l ++ l').length (sumP (l ++ l')) (if sumP l' = 0 then lo else lowE (sumP l) lo lo2) (if sumP l' = 0 then hi else highE (sumP l) hi hi2)) W fun W2 hW2 => ?_).mono fun e w' ⟨f, he, W2, hB, hF, h⟩ => ⟨f, he, W2, keep1 hW hB, hF, h⟩
   have hB := keep1 hW hW2
   refine (C.join (C.frame (T := []) hx (Frame.of_below hB) fun _ _ => by simp) (C.frame (T := []) hx' (Frame.of_below hB) fun _ _ => by simp) hapR hlen hsum.2 he'.1.1 he'.1.2).mono ?_
   rintro e w' ⟨f, rfl, ⟨hf, hF⟩ | ⟨rfl, Q', m, h⟩⟩
   ·exact ⟨f, rfl, hF, .inl hf⟩
   ·exact ⟨0, rfl, m.f, .inr ⟨rfl, Q', m, by rw [List.length_append, sumP_append]; exact h⟩⟩
  ·rintro e w' ⟨f, rfl, W, hB, hF, hf | ⟨rfl, Q', m, h⟩⟩
   ·exact ⟨f, rfl, .inr ⟨hf, ((Frame.of_below hB).trans hF).mono fun j hj => by simp [hj]⟩⟩
   ·exact ⟨0, rfl, .inl ⟨rfl, SkX.of hb ha ((Mv.of Q hB).trans m) h (he.app he' hl)⟩⟩
 tot := by
  rintro b S l w ⟨q, Q, lo, hi, rfl, hb, ha, hx, he⟩ hl
  exact stotal_at b q k.T _ (sumP l) _ _ _ _ _ _ _ _ _ _ _ w ha (m_tot k q) (C.tot hx hl.sum.2)
 ends := by
  rintro b S l w ⟨q, Q, lo, hi, rfl, hb, ha, hx, he⟩ hl
  exact (sends_at b q k.T _ (sumP l) lo hi _ _ _ _ _ _ _ _ _ _ _ w ha (m_ends k q) (C.ends hx hl.sum.2)).mono fun e w' h => ⟨⟨lo, hi, h.1, he⟩, h.2⟩
end
end Go.Proofs.YtlbnlmhcpephbaaGreatDoor

namespace Go.Proofs.YtlbnlmhcpephbaaGreatDoor
open Go.RowKit
set_option maxRecDepth 100000
theorem mem_leP : ∀ {ps : List (Int × Int)} {v : Int × Int}, (∀ v ∈ ps, 0 < v.2) → v ∈ ps → v.2 ≤ sumP ps
  | x :: l, v, h, hv => by
    have h1 := sumP_nonneg (ps := l) fun y hy => h y (by simp [hy])
    have h2 := h x (by simp)
    simp only [sumP, List.map_cons, List.sum_cons] at h1 ⊢
    rcases List.mem_cons.1 hv with rfl | hv
    · omega
    · have := mem_leP (fun y hy => h y (by simp [hy])) hv; simp only [sumP] at this; omega
structure WqS (w W1 : World) (T : TypeId) (q b c : Nat) (W : World) (l : List UInt8) (m : Nat) : Prop where
 ex : ∃ A len cap, QuI W1 W b none A len cap l
 lm : l.length ≤ m
 b1 : Below w.heap.size w W1
 a1 : At W1 c #[pt q] T
 ne : c ≠ b
 ge : w.heap.size ≤ b
 q1 : At W1 b #[.slice none 0 0] 193
section
variable {w W1 W W' : World} {T : TypeId} {q b c m n : Nat} {l : List UInt8} {L : Option Addr} {cL : Nat} {ps : List (Int × Int)}
theorem WqS.start (hb : Below w.heap.size w W1) (a : At W1 c #[pt q] T) (hq : Qu W1 b none 0 0 []) (ne : c ≠ b) (ge : w.heap.size ≤ b) : WqS w W1 T q b c W1 [] 0 := ⟨⟨_, _, _, QuI.start hq⟩, by simp, hb, a, ne, ge, hq.at'⟩
theorem WqS.below (h : WqS w W1 T q b c W l m) (hb : Below W.heap.size W W') : WqS w W1 T q b c W' l m := by
 obtain ⟨A, len, cap, e⟩ := h.ex
 exact { h with ex := ⟨A, len, cap, e.below hb⟩ }
theorem WqS.a (h : WqS w W1 T q b c W l m) : At W c #[pt q] T := by
 obtain ⟨A, len, cap, e⟩ := h.ex
 exact e.fr.at h.a1 (by simp [blk, h.ne])
theorem WqS.bw (h : WqS w W1 T q b c W l m) : Below w.heap.size w W := by
 obtain ⟨A, len, cap, e⟩ := h.ex
 exact e.fr.below h.b1 h.b1.size fun k hk => by simp [blk] at hk; have := h.ge; omega
theorem WqS.fin (h : WqS w W1 T q b c W l m) (hb : Below W'.heap.size W' W1) : ∃ W1 A len cap, Below W'.heap.size W' W1 ∧ QuI W1 W b none A len cap l := by
 obtain ⟨A, len, cap, e⟩ := h.ex
 exact ⟨W1, A, len, cap, hb, e⟩
def KpA (n : Nat) (W W' : World) : Prop := ∀ (g : Nat) (cs : Array Value) (T : TypeId), n ≤ g → At W g cs T → At W' g cs T
theorem WqS.add' (h : WqS w W1 T q b c W l m) {f : FuncId} {x : Value} {k : List UInt8} (hb : Below W.heap.size W W') (hk : k.length ≤ n)
  (hc : ∀ A len cap, QuI W1 W' b none A len cap l → (∀ g, W.heap.size ≤ g → g ∉ b :: blk A) → len ≤ m → Calls Tryz.prog f #[pt b, x] W' fun e w' => e = .returned (.tuple #[]) ∧ ∃ A' len' cap', QuI W' w' b A A' len' cap' (l ++ k)) :
  Calls Tryz.prog f #[pt b, x] W' fun e w' => e = .returned (.tuple #[]) ∧ WqS w W1 T q b c w' (l ++ k) (m + n) ∧ KpA W.heap.size W' w' := by
 obtain ⟨A, len, cap, e⟩ := h.ex
 have hf := fun g hg => QuB.fresh e.qu g hg _ rfl
 refine (hc A len cap (e.below hb) hf (e.qu.len ▸ h.lm)).mono ?_
 rintro e2 w' ⟨he, A', len', cap', hQ⟩
 exact ⟨he, { h with ex := ⟨A', len', cap', (e.below hb).trans hQ⟩, lm := by have := h.lm; rw [List.length_append]; omega }, fun g cs U hg a => hQ.fr.at a (hf g hg)⟩
theorem WqS.add (h : WqS w W1 T q b c W l m) {f : FuncId} {x : Value} {k : List UInt8} (hb : Below W.heap.size W W') (hk : k.length ≤ n)
  (hc : ∀ A len cap, QuI W1 W' b none A len cap l → (∀ g, W.heap.size ≤ g → g ∉ b :: blk A) → len ≤ m → Calls Tryz.prog f #[pt b, x] W' fun e w' => e = .returned (.tuple #[]) ∧ ∃ A' len' cap', QuI W' w' b A A' len' cap' (l ++ k)) :
  Calls Tryz.prog f #[pt b, x] W' fun e w' => e = .returned (.tuple #[]) ∧ WqS w W1 T q b c w' (l ++ k) (m + n) := (h.add' hb hk hc).mono fun e w' h => ⟨h.1, h.2.1⟩
theorem WqS.nats_at (h : WqS w W1 T q b c W l m) (hb : Below W.heap.size W W') (us : List Nat) (hu : ∀ u ∈ us, u < 18446744073709551616) {g : Nat} (hg : g = W'.heap.size) (hn : us.length = n) (hm : n ≤ 100 ∧ m ≤ 300000) :
  Calls Tryz.prog 96 #[pt b, .slice (some ⟨g, 0, none⟩) n n] (W'.alloc (.cells (us.map fun u : Nat => Value.int .u64 (u : Int)).toArray 23)) fun e w' => e = .returned (.tuple #[]) ∧ WqS w W1 T q b c w' (l ++ natsB us) (m + 10 * n) ∧ KpA W.heap.size (W'.alloc (.cells (us.map fun u : Nat => Value.int .u64 (u : Int)).toArray 23)) w' :=
 h.add' (keep1 hb (bn _ _)) (hn ▸ natsB_len hu) fun A len cap e hf hl => qnat_any b A len cap l _ n n us _ e.qu hn (by omega) (by omega) (rdU_list W' us _ g hg rfl) hu fun g' hg' => by cases hg'; exact hf _ (hg ▸ hb.size)
theorem WqS.ints_at (h : WqS w W1 T q b c W l m) (hb : Below W.heap.size W W') (xs : List Int) (hx : ∀ x ∈ xs, I64 x) {g : Nat} (hg : g = W'.heap.size) (hn : xs.length = n) (hm : n ≤ 100 ∧ m ≤ 300000) :
  Calls Tryz.prog 202 #[pt b, .slice (some ⟨g, 0, none⟩) n n] (W'.alloc (.cells (xs.map (Value.int .i64)).toArray 2)) fun e w' => e = .returned (.tuple #[]) ∧ WqS w W1 T q b c w' (l ++ intsB xs) (m + 10 * n) ∧ KpA W.heap.size (W'.alloc (.cells (xs.map (Value.int .i64)).toArray 2)) w' :=
 h.add' (keep1 hb (bn _ _)) (hn ▸ intsB_len hx) fun A len cap e hf hl => qint_any b A len cap l _ n n xs _ e.qu hn (by omega) (by omega) (rdI_list W' xs _ g hg rfl) hx fun g' hg' => by cases hg'; exact hf _ (hg ▸ hb.size)
theorem WqS.nats (h : WqS w W1 T q b c W l m) (us : List Nat) (hu : ∀ u ∈ us, u < 18446744073709551616) (hn : us.length = n) (hm : n ≤ 100 ∧ m ≤ 300000) :
  Calls Tryz.prog 96 #[pt b, .slice (some ⟨W.heap.size, 0, none⟩) n n] (W.alloc (.cells (us.map fun u : Nat => Value.int .u64 (u : Int)).toArray 23)) fun e w' => e = .returned (.tuple #[]) ∧ WqS w W1 T q b c w' (l ++ natsB us) (m + 10 * n) :=
 h.add (bn _ _) (hn ▸ natsB_len hu) fun A len cap e hf hl => qnat_any b A len cap l _ n n us _ e.qu hn (by omega) (by omega) (rdU_list W us _ W.heap.size rfl rfl) hu fun g hg => by cases hg; exact hf _ (Nat.le_refl _)
theorem WqS.ints (h : WqS w W1 T q b c W l m) (xs : List Int) (hx : ∀ x ∈ xs, I64 x) (hn : xs.length = n) (hm : n ≤ 100 ∧ m ≤ 300000) :
  Calls Tryz.prog 202 #[pt b, .slice (some ⟨W.heap.size, 0, none⟩) n n] (W.alloc (.cells (xs.map (Value.int .i64)).toArray 2)) fun e w' => e = .returned (.tuple #[]) ∧ WqS w W1 T q b c w' (l ++ intsB xs) (m + 10 * n) :=
 h.add (bn _ _) (hn ▸ intsB_len hx) fun A len cap e hf hl => qint_any b A len cap l _ n n xs _ e.qu hn (by omega) (by omega) (rdI_list W xs _ W.heap.size rfl rfl) hx fun g hg => by cases hg; exact hf _ (Nat.le_refl _)
theorem rowB_le (hp : PutOk ps) (hn : ps.length = n) (hm : n ≤ 8000) : (rowB ps).length ≤ 10 + 20 * n := by
 have h3 := hp.len ps.length
 rw [List.take_of_length_le (Nat.le_refl _)] at h3
 have h4 := natB_len (u := ps.length) (by omega)
 unfold rowB
 rw [List.length_append]
 omega
theorem WqS.row_new (h : WqS w W1 T q b c W l m) (hb : Below W.heap.size W W') (hR : RdP W' L ps) (hL : ∀ g, L = some g → W.heap.size ≤ g.block) (hn : ps.length = n) (hp : PutOk ps) (hm : n ≤ 8000 ∧ m ≤ 300000) :
  Calls Tryz.prog 204 #[pt b, .slice L n cL] W' fun e w' => e = .returned (.tuple #[]) ∧ WqS w W1 T q b c w' (l ++ rowB ps) (m + (10 + 20 * n)) :=
 h.add hb (rowB_le hp hn hm.1) fun A len cap e hf hl => rput_any b A len cap l L n cL ps W' e.qu hn (by omega) (by omega) hR hp fun _ g hg => hf _ (hL g hg)
theorem WqS.old (h : WqS w W1 T q b c W l m) {cs : List Value} (hR : Rd W1 L cs) (hv : ∀ u ∈ cs, ∀ A n k, u ≠ .slice A n k) : Rd W L cs ∧ ∀ A len cap, QuI W1 W b none A len cap l → cs ≠ [] → ∀ g, L = some g → g.block ∉ b :: blk A := by
  obtain ⟨A, len, cap, e⟩ := h.ex
  have key : cs ≠ [] → ∀ g, L = some g → g.block < W1.heap.size ∧ g.block ≠ b := fun hc g hg => by
    cases cs with
    | nil => exact absurd rfl hc
    | cons u cs =>
      obtain ⟨g', o, e', hlt, hcell⟩ := hR 0 u rfl
      rw [hg] at e'
      cases e'
      refine ⟨hlt, fun (eb : g' = b) => ?_⟩
      subst eb
      have hq := h.q1
      unfold At at hq
      rw [World.cell?] at hcell
      simp [hq] at hcell
      cases o with
      | zero => simp at hcell; exact hv u (by simp) _ _ _ hcell.symm
      | succ o => simp at hcell
  refine ⟨?_, fun A len cap e hc g hg => e.notin (key hc g hg).1 fun hm => (key hc g hg).2 (by simpa [blk] using hm)⟩
  by_cases hc : cs = []
  · subst hc; exact fun j u hj => by simp at hj
  · exact e.fr.rd hR fun g hg hm => (key hc g hg).2 (by simpa [blk] using hm)
theorem WqS.row_old (h : WqS w W1 T q b c W l m) (hR : RdP W1 L ps) (hn : ps.length = n) (hp : PutOk ps) (hm : n ≤ 8000 ∧ m ≤ 300000) :
  Calls Tryz.prog 204 #[pt b, .slice L n cL] W fun e w' => e = .returned (.tuple #[]) ∧ WqS w W1 T q b c w' (l ++ rowB ps) (m + (10 + 20 * n)) := by
 obtain ⟨h1, h2⟩ := h.old hR fun u hu => by obtain ⟨x, _, hx⟩ := List.mem_flatMap.1 hu; simp at hx; rcases hx with rfl | rfl <;> simp
 exact h.add (Below.refl _ _) (rowB_le hp hn hm.1) fun A len cap e hf hl => rput_any b A len cap l L n cL ps W e.qu hn (by omega) (by omega) h1 hp fun h0 => h2 A len cap e (by rw [Ne, List.flatMap_eq_nil_iff]; intro hz; cases ps with | nil => simp at hn; omega | cons x ps => exact absurd (hz x (by simp)) (by simp))
end
structure RdS (w W : World) (b : Nat) (K : List (Nat × Array Value × TypeId)) (l : List UInt8) : Prop where
 j : EyJ w W b l
 ln : l.length ≤ 300000
 k : ∀ p ∈ K, At W p.1 p.2.1 p.2.2 ∧ w.heap.size ≤ p.1
section
variable {w W W' : World} {b r u n : Nat} {x most : Int} {K : List (Nat × Array Value × TypeId)} {cs : Array Value} {l rest : List UInt8} {S : List Nat}
theorem RdS.start (h : Eye W b l) (hl : l.length ≤ 300000) : RdS W W b [] l := ⟨EyJ.start h, hl, fun p hp => by simp at hp⟩
theorem RdS.read (h : RdS w W b K (l ++ rest)) (hE : Eye W' b rest) (hF : Frame [b] W W') : RdS w W' b K rest := ⟨h.j.read hE hF, by have := h.ln; rw [List.length_append] at this; omega, fun p hp => ⟨h.j.at (h.k p hp).1 hF (h.k p hp).2, (h.k p hp).2⟩⟩
theorem RdS.again (h : RdS w W b K (l ++ rest)) (k : RdS W W' b [] rest) : RdS w W' b K rest := h.read k.j.eye k.j.fr
theorem RdS.below (h : RdS w W b K l) (hb : Below W.heap.size W W') : RdS w W' b K l := ⟨h.j.below hb, h.ln, fun p hp => ⟨(h.k p hp).1.below hb, (h.k p hp).2⟩⟩
theorem RdS.step (h : RdS w W b K l) (hF : Frame S W W') (hS : ∀ k ∈ S, w.heap.size ≤ k ∧ ∀ p ∈ K, p.1 ≠ k) : RdS w W' b K l := ⟨h.j.step hF fun k hk => (hS k hk).1, h.ln, fun p hp => ⟨hF.at (h.k p hp).1 fun m => (hS _ m).2 p hp rfl, (h.k p hp).2⟩⟩
theorem RdS.new (h : RdS w W b K l) (cs : Array Value) (T : TypeId := 28) : RdS w (W.alloc (.cells cs T)) b ((W.heap.size, cs, T) :: K) l :=
 ⟨h.j.below (bn _ _), h.ln, fun p hp => by
  rcases List.mem_cons.1 hp with rfl | hp
  ·exact ⟨At.new _ _ _, h.j.fr.size⟩
  ·exact ⟨(h.k p hp).1.below (bn _ _), (h.k p hp).2⟩⟩
theorem RdS.int (h : RdS w W b K (natB (zigN x) ++ rest)) (hx : I64 x) : Calls Tryz.prog 82 #[pt b] W fun e w' => e = .returned (.int .i64 x) ∧ RdS w w' b K rest :=
 (eint_any b x rest W h.j.eye hx.1 hx.2 (by have := h.ln; rw [List.length_append] at this; omega)).mono fun e w' ⟨he, hE, hF⟩ => ⟨he, h.read hE hF⟩
theorem RdS.nat (h : RdS w W b K (natB u ++ rest)) (hu : u < 18446744073709551616) (hm : (u : Int) ≤ most) : Calls Tryz.prog 79 #[pt b, .int .u64 most] W fun e w' => e = .returned (.int .u64 u) ∧ RdS w w' b K rest :=
 (enat_any b u most rest W h.j.eye hu hm (by have := h.ln; rw [List.length_append] at this; omega)).mono fun e w' ⟨he, hE, hF⟩ => ⟨he, h.read hE hF⟩
theorem RdS.small (h : RdS w W b K (natB u ++ rest)) (hm : (u : Int) ≤ most ∧ most ≤ 1000000000) : Calls Tryz.prog 64 #[pt b, .int .i64 most] W fun e w' => e = .returned (.int .i64 u) ∧ RdS w w' b K rest :=
 (esmall_any b u most rest W h.j.eye hm.1 hm.2 (by have := h.ln; rw [List.length_append] at this; omega)).mono fun e w' ⟨he, hE, hF⟩ => ⟨he, h.read hE hF⟩
theorem RdS.count (h : RdS w W b K (natB u ++ rest)) (hu : 0 < u ∧ u ≤ 9223372036854775807) : Calls Tryz.prog 90 #[pt b] W fun e w' => e = .returned (.int .u64 u) ∧ RdS w w' b K rest :=
 (ecount_any b u rest W h.j.eye hu.1 hu.2 (by have := h.ln; rw [List.length_append] at this; omega)).mono fun e w' ⟨he, hE, hF⟩ => ⟨he, h.read hE hF⟩
theorem RdS.row {ps : List (Int × Int)} (h : RdS w W b K (rowB ps ++ rest)) (hp : PutOk ps) (hn : ps.length = n) (hm : (n : Int) ≤ most ∧ most ≤ 4096) : Calls Tryz.prog 83 #[pt b, .int .i64 most] W fun e w' => ∃ A cap, e = .returned (.slice A n cap) ∧ RdP w' A ps ∧ RdS w w' b K rest ∧ ∀ A' qs, RdP W A' qs → RdP w' A' qs :=
 (rget_any b most ps rest W h.j.eye hp (by omega) hm.2 (by have := h.ln; rw [List.length_append] at this; omega)).mono fun e w' ⟨A, cap, he, hR, hE, hF⟩ => ⟨A, cap, hn ▸ he, hR, h.read hE hF, fun A' qs r => rd_eye h.j.eye r hF⟩
theorem RdS.fin {kd pn pd sd mo dg li de fa wi wo : Int} {T : TypeId} {X : World → Nat → List Nat → Prop} (h : RdS w W b K []) (hr : w.heap.size ≤ r) (hX : ∀ W W' q Q S, X W q Q → Frame S W W' → Apart Q S → X W' q Q) (v : Value) (g : Bool) (hc : g = false ∨ g = true ∧ ∃ q Q, v = .iface T (.agg #[pt q]) ∧ Within Q w.heap.size W.heap.size ∧ r ∉ Q ∧ X W q Q) :
  RdF b (.agg (CR kd pn pd sd mo dg li de fa wi wo)) T X w (.returned (.tuple #[.agg (CR kd pn pd sd mo dg li de fa wi wo), v, .bool g])) (((((((((((W.setCell ⟨r, 0, none⟩ (.int .i64 kd)).setCell ⟨r, 1, none⟩ (.int .u64 pn)).setCell ⟨r, 2, none⟩ (.int .u64 pd)).setCell ⟨r, 3, none⟩ (.int .i64 sd)).setCell ⟨r, 4, none⟩ (.int .i64 mo)).setCell ⟨r, 5, none⟩ (.int .i64 dg)).setCell ⟨r, 6, none⟩ (.int .u64 li)).setCell ⟨r, 7, none⟩ (.int .i64 de)).setCell ⟨r, 8, none⟩ (.int .i64 fa)).setCell ⟨r, 9, none⟩ (.int .i64 wi)).setCell ⟨r, 10, none⟩ (.int .u64 wo)) := by
 have f := Frame.set11 W r (.int .i64 kd) (.int .u64 pn) (.int .u64 pd) (.int .i64 sd) (.int .i64 mo) (.int .i64 dg) (.int .u64 li) (.int .i64 de) (.int .i64 fa) (.int .i64 wi) (.int .u64 wo)
 have J := h.j.own f hr
 rcases hc with rfl | ⟨rfl, q, Q, rfl, hQ, hn, hx⟩
 ·exact .inr ⟨v, rfl, J.fr⟩
 ·exact .inl ⟨q, Q, rfl, fun j hj => ⟨(hQ j hj).1, Nat.lt_of_lt_of_le (hQ j hj).2 f.size⟩, hX _ _ _ _ _ hx f (fun j hj hm => by simp only [List.mem_singleton] at hm; subst hm; exact hn hj), J.eye, J.fr⟩
theorem NwC.any {X : World → Nat → List Nat → Prop} {e : Ending} (h : NwC X W e W') (hb : w.heap.size ≤ W.heap.size) (hr : r < W.heap.size) (T : TypeId) : ∃ (p : Option Addr) (f : Int), e = .returned (.tuple #[.pointer p, .int .i64 f]) ∧ Below W.heap.size W W' ∧ ((f == 0) = false ∨ (f == 0) = true ∧ ∃ q Q, Value.iface T (.agg #[.pointer p]) = .iface T (.agg #[pt q]) ∧ Within Q w.heap.size W'.heap.size ∧ r ∉ Q ∧ X W' q Q) := by
 obtain ⟨⟨q, Q, rfl, hQ, hx⟩ | ⟨f, hf, rfl⟩, hB⟩ := h
 ·exact ⟨_, 0, rfl, hB, .inr ⟨rfl, q, Q, rfl, fun j hj => ⟨Nat.le_trans hb (hQ j hj).1, (hQ j hj).2⟩, fun hm => by have := (hQ _ hm).1; omega, hx⟩⟩
 ·exact ⟨none, f, rfl, hB, .inl (beq_eq_false_iff_ne.2 hf)⟩
end
end Go.Proofs.YtlbnlmhcpephbaaGreatDoor

namespace Go.Proofs.YtlbnlmhcpephbaaGreatDoor
open Go.RowKit
theorem xor1 {v : Int} (h : 0 ≤ v) (h' : v < 33554432) : bits .xor .i64 v 1 ≠ v ∧ 0 ≤ bits .xor .i64 v 1 ∧ bits .xor .i64 v 1 < 33554432 := by
 obtain ⟨n, rfl⟩ := Int.eq_ofNat_of_zero_le h
 have e : bits .xor .i64 (n : Int) 1 = IntKind.i64.wrap ((n ^^^ 1 : Nat) : Int) := by
  show IntKind.i64.wrap ((BitVec.ofInt 64 (n : Int) ^^^ 1#64).toNat : Int) = _
  rw [BitVec.ofInt_natCast, BitVec.toNat_xor, BitVec.toNat_ofNat, Nat.mod_eq_of_lt (by omega)]
  rfl
 have a : n ^^^ 1 < 2 ^ 25 := Nat.xor_lt_two_pow (by omega) (by decide)
 have b : n ^^^ 1 ≠ n := fun q => by have := congrArg (Nat.testBit · 0) q; simp at this; omega
 rw [e, IntKind.wrap_i64]
 omega
theorem pow2 {d : Int} (h0 : 1 ≤ d) (h1 : d ≤ 24) : 2 ≤ (2 : Int) ^ d.toNat ∧ (2 : Int) ^ d.toNat ≤ 16777216 :=
 (show ∀ n : Fin 25, 1 ≤ n.1 → 2 ≤ (2 : Int) ^ n.1 ∧ (2 : Int) ^ n.1 ≤ 16777216 by decide) ⟨d.toNat, by omega⟩ (by simp; omega)
structure TrD (d L : Int) : Prop where
 d0 : 1 ≤ d
 d1 : d ≤ 24
 e : wrap64 (2 ^ d.toNat) = L
 l0 : 2 ≤ L
 l1 : L ≤ 16777216
theorem TrD.of {d : Int} (h0 : 1 ≤ d) (h1 : d ≤ 24) : TrD d (2 ^ d.toNat) := by
 have := pow2 h0 h1
 exact ⟨h0, h1, by unfold wrap64; omega, this.1, this.2⟩
section
variable (d L v : Int) (w : World) (h : TrD d L)
include h
theorem leaves_any : Calls Tryz.prog 109 #[.agg #[.int .i64 d]] w fun e w' => e = .returned (.int .i64 L) ∧ Below w.heap.size w w' := by
 obtain ⟨h0, h1, e, _, _⟩ := h
 go_enter Tryz.func109, Tryz.ntmps109
 go_wp2
 go_ret
 exact ⟨by rw [← e]; rfl, bn _ _⟩
theorem good_any (hv : -9223372036854775808 ≤ v ∧ v ≤ 9223372036854775807) : Calls Tryz.prog 108 #[.agg #[.int .i64 d], .int .i64 v] w fun e w' => e = .returned (.bool (decide (1 ≤ v ∧ v < 2 * L))) ∧ Below w.heap.size w w' := by
 have e : IntKind.i64.wrap (2 * L) = 2 * L := by have := h.l0; have := h.l1; simp only [IntKind.wrap_i64]; omega
 have HL := Lib.hid fun W => leaves_any d L W h
 have hb := bn w (.cells #[.int .i64 d] 165)
 have f := (At.new w #[.int .i64 d] 165).one
 by_cases hx : 1 ≤ v
 ·have HX := Lib.hid hx
  go_enter Tryz.func108, Tryz.ntmps108
  go_wp2_with fail
  refine bc hb (HL.out _) fun W hb => ?_
  go_wp2
  go_ret
  exact ⟨by have := HX.out; simp; omega, hb⟩
 ·have HX := Lib.hid hx
  go_enter Tryz.func108, Tryz.ntmps108
  go_wp2
  go_ret
  exact ⟨by have := HX.out; simp; omega, hb⟩
theorem leaf_any (hv : -9223372036854775808 ≤ v ∧ v ≤ 9223372036854775807) : Calls Tryz.prog 111 #[.agg #[.int .i64 d], .int .i64 v] w fun e w' => e = .returned (if 0 ≤ v ∧ v < L then .tuple #[.int .i64 (L + v), .bool true] else .tuple #[.int .i64 0, .bool false]) ∧ Below w.heap.size w w' := by
 have HL := Lib.hid fun W => leaves_any d L W h
 have hb := bn w (.cells #[.int .i64 d] 165)
 have a := At.new w #[.int .i64 d] 165
 have f := a.one
 have l := a.lt
 by_cases hx : 0 ≤ v ∧ v < L
 ·rw [if_pos hx]
  obtain ⟨hx, hy⟩ := hx
  have e : IntKind.i64.wrap (L + v) = L + v := by have := h.l1; simp only [IntKind.wrap_i64]; omega
  go_enter Tryz.func111, Tryz.ntmps111
  go_wp2_with fail
  refine (HL.out _).mono ?_
  rintro e w1 ⟨rfl, hb1⟩
  have f := (a.below hb1).one
  replace hb := keep1 hb hb1
  go_wp2_with fail
  refine bc hb (HL.out _) fun W hb => ?_
  go_wp2
  go_ret2
  exact ⟨rfl, hb⟩
 ·rw [if_neg hx]
  by_cases hy : 0 ≤ v
  ·have hy : L ≤ v := by omega
   go_enter Tryz.func111, Tryz.ntmps111
   go_wp2_with fail
   refine bc hb (HL.out _) fun W hb => ?_
   go_wp2
   go_ret2
   exact ⟨rfl, hb⟩
  ·go_enter Tryz.func111, Tryz.ntmps111
   go_wp2
   go_ret2
   exact ⟨rfl, hb⟩
theorem up_any' (hv : 1 ≤ v ∧ v < 2 * L) : Calls Tryz.prog 244 #[.agg #[.int .i64 d], .int .i64 v] w fun e w' => e = .returned (.int .i64 (v / 2)) ∧ Below w.heap.size w w' := by
 have h1 := h.l1
 have HL := Lib.hid (good_any d L v (w.alloc (.cells #[.int .i64 d] 165)) h (by have := h.l1; omega))
 rw [decide_eq_true hv] at HL
 have hb := bn w (.cells #[.int .i64 d] 165)
 have f := (At.new w #[.int .i64 d] 165).one
 go_enter Tryz.func244, Tryz.ntmps244
 go_wp2_with fail
 refine bc hb HL.out fun W hb => ?_
 go_wp2
 go_ret
 exact ⟨rfl, hb⟩
theorem beside_any (hv : 1 ≤ v ∧ v < 2 * L) : Calls Tryz.prog 243 #[.agg #[.int .i64 d], .int .i64 v] w fun e w' => e = .returned (.int .i64 (if v = 1 then 0 else bits .xor .i64 v 1)) ∧ Below w.heap.size w w' := by
 have HL := Lib.hid (good_any d L v (w.alloc (.cells #[.int .i64 d] 165)) h (by have := h.l1; omega))
 rw [decide_eq_true hv] at HL
 have hb := bn w (.cells #[.int .i64 d] 165)
 have f := (At.new w #[.int .i64 d] 165).one
 rcases Decidable.em (v = 1) with rfl | n <;> first | rw [if_pos rfl] | rw [if_neg n]
 all_goals
  go_enter Tryz.func243, Tryz.ntmps243
  go_wp2_with fail
  refine bc hb HL.out fun W hb => ?_
  go_wp2
  go_ret
  exact ⟨rfl, hb⟩
end
end Go.Proofs.YtlbnlmhcpephbaaGreatDoor

namespace Go.Proofs.YtlbnlmhcpephbaaGreatDoor
def flt (v u : Int) (ps : List (Int × Int)) : List (Int × Int) := ps.filter fun x => decide (x.1 ≠ v ∧ x.1 ≠ u)
def ixS (ps : List (Int × Int)) : Nat := (ps.map fun x => x.1.toNat).sum
theorem flt_cons {v u : Int} {x : Int × Int} {ps : List (Int × Int)} : flt v u (x :: ps) = if x.1 ≠ v ∧ x.1 ≠ u then x :: flt v u ps else flt v u ps := by simp [flt, List.filter_cons]
theorem flt_sum {v u : Int} (h : v ≠ u) : ∀ ps : List (Int × Int), sumP (flt v u ps) + cnt ps v + cnt ps u = sumP ps
 | [] => rfl
 | x :: ps => by have := flt_sum h ps; rw [flt_cons, cnt_cons, cnt_cons, sumP_cons]; grind [sumP_cons]
theorem flt_ix (v u : Int) : ∀ ps : List (Int × Int), (flt v u ps).length ≤ ps.length ∧ ixS (flt v u ps) ≤ ixS ps ∧ (v ∈ ps.map (·.1) → (flt v u ps).length < ps.length ∧ ixS (flt v u ps) + v.toNat ≤ ixS ps)
 | [] => by simp [flt]
 | x :: ps => by have := flt_ix v u ps; rw [flt_cons]; simp only [ixS, List.map_cons, List.mem_cons] at *; split <;> simp only [List.map_cons, List.sum_cons, List.length_cons] at * <;> grind
theorem flt_gd {v u : Int} {ps : List (Int × Int)} (h : Gd ps) : Gd (flt v u ps) := ⟨h.srt.filter _, fun x hx => h.pos x (List.mem_filter.1 hx).1⟩
theorem rowAdd_ix {ps : List (Int × Int)} {q c : Int} (h : Gd ps) (hc : 0 < c) (hs : cnt ps q + c < 18446744073709551616) : (rowAdd ps q c).length ≤ ps.length + 1 ∧ ixS (rowAdd ps q c) ≤ ixS ps + q.toNat ∧ ∀ x ∈ rowAdd ps q c, x ∈ ps ∨ x.1 = q := by
 rw [rowAdd_eq h hc hs]
 have a : ∀ l : List (Int × Int), (l.filter fun x => decide (x.1 < q)).length + (l.filter fun x => decide (q < x.1)).length ≤ l.length ∧ ixS (l.filter fun x => decide (x.1 < q)) + ixS (l.filter fun x => decide (q < x.1)) ≤ ixS l := fun l => by
  induction l with
  | nil => simp [ixS]
  | cons x l ih => simp only [List.filter_cons]; simp only [ixS, List.map_cons, List.sum_cons, List.length_cons] at *; grind
 have := a ps
 simp only [ixS, List.map_append, List.sum_append, List.length_append, List.mem_append, List.mem_filter, List.mem_singleton] at *
 refine ⟨by simp; omega, by simp; omega, by grind⟩
theorem flt_take {v u : Int} {ps : List (Int × Int)} {k : Nat} (hk : k < ps.length) : flt v u (ps.take (k + 1)) = if ps[k].1 ≠ v ∧ ps[k].1 ≠ u then flt v u (ps.take k) ++ [ps[k]] else flt v u (ps.take k) := by
 simp only [flt, List.take_succ_eq_append_getElem hk, List.filter_append]
 grind
theorem rowAdd_end {ps : List (Int × Int)} {q c : Int} (h : Gd ps) (hl : ∀ x ∈ ps, x.1 < q) (hc : 0 < c) (hc' : c < 18446744073709551616) : rowAdd ps q c = ps ++ [(q, c)] := by
 have := cnt_zero fun x hx => Int.ne_of_lt (hl x hx)
 rw [rowAdd_eq h hc (by omega), List.filter_eq_self.2 (by simpa using hl), List.filter_eq_nil_iff.2 (by grind), this]
 simp
theorem gd_lt {q : List (Int × Int)} (h : Gd q) {j : Nat} (hj : j < q.length) {x : Int × Int} (hx : x ∈ q.take j) : x.1 < (q[j]'hj).1 := by
 obtain ⟨i, hi, rfl⟩ := List.getElem_of_mem hx
 have : i < j := by simp at hi; omega
 rw [List.getElem_take]
 exact List.pairwise_iff_getElem.1 h.srt i j _ _ this
theorem sumP_take_le {ps : List (Int × Int)} (h : ∀ x ∈ ps, 0 < x.2) (k : Nat) : sumP (ps.take k) ≤ sumP ps := by
 have := sumP_append (ps.take k) (ps.drop k)
 have := sumP_nonneg fun x hx => h x (List.mem_of_mem_drop (i := k) hx)
 rw [List.take_append_drop] at *
 omega
theorem flt_step {v u q c : Int} {ps : List (Int × Int)} {k : Nat} (h : Gd ps) (hs : sumP ps ≤ 9223372036854775807) (hk : k < ps.length) (e : ps[k] = (q, c)) (hv : q ≠ v) (hu : q ≠ u) (n : v ≠ u) :
  rowAdd (flt v u (ps.take k)) q c = flt v u (ps.take (k + 1)) ∧ sumP (flt v u (ps.take k)) + c ≤ 9223372036854775807 ∧ 0 < c ∧ (flt v u (ps.take k)).length ≤ k := by
 have g : Gd (ps.take k) := ⟨h.srt.sublist (List.take_sublist _ _), fun x hx => h.pos x (List.mem_of_mem_take hx)⟩
 have p := h.pos _ (List.getElem_mem hk)
 have a := fun x => gd_lt (x := x) h hk
 have l := sumP_take_le h.pos (k + 1)
 have m := flt_sum n (ps.take k)
 have c1 := cnt_nonneg g.pos v
 have c2 := cnt_nonneg g.pos u
 rw [sumP_take ps k hk] at l
 rw [e] at p a l
 dsimp only at p a l
 have len := (flt_ix v u (ps.take k)).1
 refine ⟨?_, by omega, p, by simp at len; omega⟩
 rw [flt_take hk, e, if_pos ⟨hv, hu⟩, rowAdd_end (flt_gd g) (fun x hx => a x (List.mem_filter.1 hx).1) p (by have := sumP_nonneg g.pos; omega)]
end Go.Proofs.YtlbnlmhcpephbaaGreatDoor

namespace Go.Proofs.YtlbnlmhcpephbaaGreatDoor
open Go.RowKit
theorem sadd_w {b : Nat} {S : List Nat} {most : Int} {ps : List (Int × Int)} {q c : Int} {w : World} (h : Strip w b S most ps) (hc : 0 < c) (hs : sumP ps + c ≤ 9223372036854775807) (hq : -9223372036854775808 ≤ q ∧ q ≤ 9223372036854775807) (hl : (ps.length : Int) < most) :
  Calls Tryz.prog 105 #[.pointer (some ⟨b, 0, none⟩), .int .i64 q, .int .u64 c] w fun e w' => e = .returned (.int .i64 0) ∧ ∃ S', Mv S S' w w' ∧ Strip w' b S' most (rowAdd ps q c) := by
 have := cnt_le_sumP h.gd.pos q
 have r : stRoom most ps q c := ⟨by omega, by have := (rowAdd_ix h.gd hc (q := q) (by omega)).1; omega⟩
 have := sadd_any b S most ps q c w h (by omega) (by have := sumP_nonneg h.gd.pos; omega) hq
 simp only [SadR, stCode, stStep, hc, r, and_self, if_true] at this
 exact this.mono fun _ _ ⟨e, S', g, s, f⟩ => ⟨e, S', ⟨g, f⟩, s⟩
structure DgB (w : World) (b sb : Nat) (T : List Nat) (d f L : Int) (ps : List (Int × Int)) (lo hi : Int) : Prop where
 at' : At w b #[.int .i64 d, .int .i64 f, .int .i64 d, .pointer (some ⟨sb, 0, none⟩), .int .i64 lo, .int .i64 hi] 169
 st : Strip w sb T 4096 ps
 ne : b ∉ T
 nd : ∀ x ∈ ps, 1 ≤ x.1 ∧ x.1 < 2 * L
 tr : TrD d L
 f0 : 1 ≤ f
 f1 : f ≤ 64
section
variable {w w' : World} {b sb : Nat} {T U : List Nat} {d f L lo hi : Int} {ps : List (Int × Int)}
theorem DgB.frame (h : DgB w b sb T d f L ps lo hi) (hf : Frame U w w') (hn : Apart (b :: T) U) : DgB w' b sb T d f L ps lo hi :=
 { h with at' := hf.at h.at' (hn b (by simp)), st := h.st.frame hf fun k hk => hn k (by simp [hk]) }
theorem DgB.below (h : DgB w b sb T d f L ps lo hi) (hb : Below w.heap.size w w') : DgB w' b sb T d f L ps lo hi := h.frame (U := []) (Frame.of_below hb) fun _ _ => by simp
theorem dtotal_any (h : DgB w b sb T d f L ps lo hi) : Calls Tryz.prog 128 #[.pointer (some ⟨b, 0, none⟩)] w fun e w' => e = .returned (.int .u64 (sumP ps)) ∧ w = w' := by
 have g := h.at'.c6
 have H := Lib.hid (stotal_any _ _ _ _ _ h.st)
 clear h
 go_enter Tryz.func128, Tryz.ntmps128
 go_wp2_with fail
 refine H.out.mono ?_
 rintro e w1 ⟨rfl, rfl⟩
 go_wp2
 go_ret
 exact ⟨rfl, rfl⟩
theorem dmost_any (h : DgB w b sb T d f L ps lo hi) : Calls Tryz.prog 112 #[.pointer (some ⟨b, 0, none⟩)] w fun e w' => e = .returned (.int .i64 (4 * f)) ∧ w = w' := by
 have g := h.at'.c6
 have e : IntKind.i64.wrap (4 * f) = 4 * f := by have := h.f0; have := h.f1; simp only [IntKind.wrap_i64]; omega
 clear h
 go_enter Tryz.func112, Tryz.ntmps112
 go_wp2
 go_ret
 exact ⟨rfl, rfl⟩
theorem dlimit_any (h : DgB w b sb T d f L ps lo hi) : ∃ l : Int, ∀ W, Below w.heap.size w W → Calls Tryz.prog 110 #[.pointer (some ⟨b, 0, none⟩)] W fun e w' => e = .returned (.int .u64 l) ∧ Below W.heap.size W w' := by
 refine ⟨IntKind.u64.wrap ((sumP ps).tdiv f), fun w0 hb => ?_⟩
 replace h := h.below hb
 have s1 := h.at'
 have H := Lib.hid fun W (hb : Below w0.heap.size w0 W) => dtotal_any (h.below hb)
 have f0 := h.f0
 have f1 := h.f1
 clear h hb
 go_enter Tryz.func110, Tryz.ntmps110
 go_wp2
 have hfar1 := fun x : Far w0 => (x.at s1).c6
 refine wp_region_far (by kernel_rfl) (by kernel_rfl) ?_
 repeat go_big_quiet_step (first | (with_reducible refine far_eq (H.out _ (Far.below _))))
 refine wpQuiet_nil ?_
 rintro _ ⟨xq, rfl⟩
 clear hfar1
 go_wp2
 go_ret
 exact ⟨rfl, xq.below⟩
theorem dconfig_any (h : DgB w b sb T d f L ps lo hi) : Calls Tryz.prog 267 #[.pointer (some ⟨b, 0, none⟩)] w fun e w' => e = .returned (.agg #[.int .i64 d, .int .i64 f]) ∧ Below w.heap.size w w' := by
 have s1 := h.at'
 have g := s1.c6
 have l := s1.lt
 clear h
 go_enter Tryz.func267, Tryz.ntmps267
 go_wp2
 have x := (At.new w #[.int .i64 d, .int .i64 f] 117).two
 exact bodyPost_ret (v := .agg #[.int .i64 d, .int .i64 f]) (by simp only [results, Tryz.f267]; simp [go_sem, x]) rfl ⟨rfl, bn _ _⟩
theorem dnodes_any (h : DgB w b sb T d f L ps lo hi) : Calls Tryz.prog 268 #[.pointer (some ⟨b, 0, none⟩)] w fun e w' => CloR ps w e w' := by
 have g := h.at'.c6
 have H := Lib.hid (spairs_any _ _ _ _ _ h.st)
 clear h
 go_enter Tryz.func268, Tryz.ntmps268
 go_wp2_with fail
 refine H.out.mono ?_
 rintro e w1 ⟨A', c', rfl, h⟩
 have h := Lib.hid h
 go_wp2
 go_ret
 exact ⟨_, _, rfl, h.out⟩
theorem dends_any (h : DgB w b sb T d f L ps lo hi) : Calls Tryz.prog 230 #[.pointer (some ⟨b, 0, none⟩)] w fun e w' => e = .returned (if sumP ps = 0 then .tuple #[.int .i64 0, .int .i64 0, .bool false] else .tuple #[.int .i64 lo, .int .i64 hi, .bool true]) ∧ Below w.heap.size w w' := by
 have s1 := h.at'
 have g := s1.c6
 have H := Lib.hid (dtotal_any h)
 clear h
 obtain ⟨n, hn⟩ : ∃ n, sumP ps = n := ⟨_, rfl⟩
 rw [hn] at H ⊢
 clear hn
 rcases Decidable.em (n = 0) with rfl | n <;> first | rw [if_pos rfl] | rw [if_neg n]
 all_goals
  go_enter Tryz.func230, Tryz.ntmps230
  go_wp2_with fail
  refine H.out.mono ?_
  rintro e w1 ⟨rfl, rfl⟩
  go_wp2
  try go_quiet (fail)
  go_wp2
  go_ret3
  first | exact ⟨rfl, (Below.refl _ _).drewN _⟩ | exact ⟨rfl, Below.refl _ _⟩
end
theorem tnew_any (d : Int) (w : World) : Calls Tryz.prog 60 #[.int .i64 d] w fun e w' => e = .returned (if 1 ≤ d ∧ d ≤ 24 then .tuple #[.agg #[.int .i64 d], .int .i64 0] else .tuple #[.agg #[.int .i64 0], .int .i64 1]) ∧ Below w.heap.size w w' := by
 have x := fun y => (At.new w #[.int .i64 y] 165).one
 by_cases h : d < 1
 ·rw [if_neg (by omega)]
  go_enter Tryz.func60, Tryz.ntmps60
  go_wp2
  exact bodyPost_ret (v := .tuple #[.agg #[.int .i64 0], .int .i64 1]) (by simp only [results, Tryz.f60]; simp [go_sem, x]) rfl ⟨rfl, bn _ _⟩
 by_cases k : 24 < d
 ·rw [if_neg (by omega)]
  go_enter Tryz.func60, Tryz.ntmps60
  go_wp2
  exact bodyPost_ret (v := .tuple #[.agg #[.int .i64 0], .int .i64 1]) (by simp only [results, Tryz.f60]; simp [go_sem, x]) rfl ⟨rfl, bn _ _⟩
 ·rw [if_pos (by omega)]
  go_enter Tryz.func60, Tryz.ntmps60
  go_wp2
  exact bodyPost_ret (v := .tuple #[.agg #[.int .i64 d], .int .i64 0]) (by simp only [results, Tryz.f60]; simp [go_sem, x]) rfl ⟨rfl, bn _ _⟩
def DnR (d f : Int) (w : World) (e : Ending) (w' : World) : Prop := ((∃ b sb T L, e = .returned (.tuple #[.pointer (some ⟨b, 0, none⟩), .int .i64 0]) ∧ DgB w' b sb T d f L [] 0 0 ∧ Within (b :: T) w.heap.size w'.heap.size) ∨ e = .returned (.tuple #[.pointer none, .int .i64 1])) ∧ Below w.heap.size w w'
theorem dnew_any (d f : Int) (w : World) : Calls Tryz.prog 44 #[.agg #[.int .i64 d, .int .i64 f]] w (DnR d f w) := by
 have s := At.new w #[.int .i64 d, .int .i64 f] 117
 have g := s.two
 have HT := Lib.hid (tnew_any d (w.alloc (.cells #[.int .i64 d, .int .i64 f] 117)))
 have hb := bn w (.cells #[.int .i64 d, .int .i64 f] 117)
 by_cases h : 1 ≤ d ∧ d ≤ 24
 ·obtain ⟨h0, h1⟩ := h
  rw [if_pos ⟨h0, h1⟩] at HT
  have HD := Lib.hid (TrD.of h0 h1)
  clear h0 h1
  go_enter Tryz.func44, Tryz.ntmps44
  go_wp2_with fail
  refine HT.out.mono ?_
  rintro e w1 ⟨rfl, hb1⟩
  replace s := s.below hb1
  replace g := s.two
  have l := s.lt
  have s1 := At.new w1 #[.int .i64 d] 165
  replace hb := keep1 hb hb1
  by_cases k : f < 1
  ·go_wp2
   go_ret2
   exact ⟨.inr rfl, keep1 hb (bn _ _)⟩
  by_cases k : 64 < f
  ·go_wp2
   go_ret2
   exact ⟨.inr rfl, keep1 hb (bn _ _)⟩
  go_wp2_with fail
  refine (snew_any 4096 _ (by omega) (by omega)).mono ?_
  rintro e w2 ⟨⟨sb, rfl, hs, hS⟩, hb2⟩
  replace s := (s.below (bn w1 _)).below hb2
  replace g := s.two
  replace s1 := s1.below hb2
  have g1 := s1.one
  rw [World.size_alloc] at hs
  have z := hS.lt sb (by simp)
  have z' := hb.size
  have F : Hid (DnR d f w (.returned (.tuple #[.pointer (some ⟨w2.heap.size, 0, none⟩), .int .i64 0])) (w2.alloc (.cells #[.int .i64 d, .int .i64 f, .int .i64 d, .pointer (some ⟨sb, 0, none⟩), .int .i64 0, .int .i64 0] 169))) := ⟨.inl ⟨_, sb, [sb], _, rfl, ⟨At.new w2 _ _, hS.below (bn _ _), by simp; omega, by simp, HD.out, by omega, by omega⟩, fun k hk => by simp at hk ⊢; omega⟩, keep1 (keep1 hb (bn _ _)) (keep1 hb2 (bn _ _))⟩
  clear hs hS z z'
  go_wp2
  go_ret2
  exact F.out
 ·rw [if_neg h] at HT
  clear h
  go_enter Tryz.func44, Tryz.ntmps44
  go_wp2_with fail
  refine HT.out.mono ?_
  rintro e w1 ⟨rfl, hb1⟩
  replace hb := keep1 hb hb1
  go_wp2
  go_ret2
  exact ⟨.inr rfl, keep1 hb (bn _ _)⟩
end Go.Proofs.YtlbnlmhcpephbaaGreatDoor
