/- Texts of this claim, joined, indents halved: RunsAll. -/
import Derived.Test.YtlbnlmhcpephbaaGreatDoorProg
import Derived.Test.YtlbnlmhcpephbaaGreatDoorKe3
namespace Go.Proofs.YtlbnlmhcpephbaaGreatDoor
open Go.RowKit
theorem flatP_one {ps : List (Int × Int)} : ∀ u ∈ flatP ps, u.oneCell' = true := by
 intro u hu
 simp only [flatP, List.mem_flatMap, List.mem_cons, List.not_mem_nil, or_false] at hu
 obtain ⟨x, _, rfl | rfl⟩ := hu <;> rfl
theorem flatP_append (ps qs : List (Int × Int)) : flatP (ps ++ qs) = flatP ps ++ flatP qs := by simp [flatP]
theorem flatP_cons (x : Int × Int) (ps : List (Int × Int)) : flatP (x :: ps) = [.int .i64 x.1, .int .u64 x.2] ++ flatP ps := by simp [flatP]
theorem flatP_take (ps : List (Int × Int)) (i : Nat) : (flatP ps).take (i * 2) = flatP (ps.take i) ∧ (flatP ps).drop (i * 2) = flatP (ps.drop i) := flat_cut (f := fun x : Int × Int => [.int .i64 x.1, .int .u64 x.2]) (fun _ => rfl) ps i
def InsR (base : Nat) (A : Option Addr) (ps : List (Int × Int)) (i : Nat) (p : Int × Int) (w : World) (e : Ending) (w' : World) : Prop :=
 ∃ A' c', e = .returned (.slice A' (ps.length + 1) c') ∧ Own2 base w' A' c' (ps.take i ++ p :: ps.drop i) ∧ Frame (blk A) w w' ∧ ∀ k ∈ blk A', k ∈ blk A ∨ w.heap.size ≤ k
theorem insert_any (base : Nat) (A : Option Addr) (c i : Nat) (ps : List (Int × Int)) (p : Int × Int) (vb : Nat) (w : World) (hown : Own2 base w A c ps) (hi : i ≤ ps.length) (hlen : ps.length ≤ 1048576)
  (hv : At w vb #[.int .i64 p.1, .int .u64 p.2] 247) (hvb : ∀ k ∈ blk A, k ≠ vb) (hb : base ≤ w.heap.size) :
  Calls Tryz.prog 139 #[.slice A ps.length c, .int .i64 i, .slice (some ⟨vb, 0, none⟩) 1 1] w (InsR base A ps i p w) := by
 refine (insert_g (j := .p) (cs := #[.int .i64 p.1, .int .u64 p.2]) hown flatP_one hlen hi hv rfl (by simp; exact ⟨rfl, rfl⟩) hvb hb).mono ?_
 rintro e w' ⟨A', c', rfl, ho, h⟩
 dsimp only [Sl.ty] at ho
 rw [(flatP_take ps i).1, (flatP_take ps i).2, List.append_assoc, ← flatP_cons, ← flatP_append] at ho
 refine ⟨A', c', rfl, ?_, h⟩
 unfold Own2
 rw [show (ps.take i ++ p :: ps.drop i).length = ps.length + 1 by simp; omega]
 exact ho
def DelR (base g c : Nat) (ps : List (Int × Int)) (i : Nat) (w : World) (e : Ending) (w' : World) : Prop :=
 e = .returned (.slice (some ⟨g, 0, none⟩) (ps.length - 1) c) ∧ Own2 base w' (some ⟨g, 0, none⟩) c (ps.take i ++ ps.drop (i + 1)) ∧ Frame [g] w w'
theorem delete_any (base g c i : Nat) (ps : List (Int × Int)) (w : World) (hown : Own2 base w (some ⟨g, 0, none⟩) c ps) (hi : i < ps.length) (hlen : ps.length ≤ 1048576) :
  Calls Tryz.prog 162 #[.slice (some ⟨g, 0, none⟩) ps.length c, .int .i64 i, .int .i64 (i + 1 : Nat)] w (DelR base g c ps i w) := by
 refine (delete_g (j := .p) hown flatP_one (Nat.lt_succ_self i) hi hlen).mono ?_
 rintro e w' ⟨rfl, ho, h⟩
 dsimp only [Sl.ty] at ho
 rw [(flatP_take ps i).1, (flatP_take ps _).2, ← flatP_append, show ps.length - (i + 1 - i) = ps.length - 1 by omega] at ho
 refine ⟨by rw [show ps.length - (i + 1 - i) = ps.length - 1 by omega], ?_, h⟩
 unfold Own2
 rw [show (ps.take i ++ ps.drop (i + 1)).length = ps.length - 1 by simp; omega]
 exact ho
def CloR (ps : List (Int × Int)) (w : World) (e : Ending) (w' : World) : Prop := ∃ A' c', e = .returned (.slice A' ps.length c') ∧ Own2 w.heap.size w' A' c' ps ∧ Below w.heap.size w w'
theorem clone_any (base : Nat) (A : Option Addr) (c : Nat) (ps : List (Int × Int)) (w : World) (hown : Own2 base w A c ps) (hlen : ps.length ≤ 1048576) :
  Calls Tryz.prog 212 #[.slice A ps.length c] w (CloR ps w) := clone_g (j := .p) hown flatP_one hlen
end Go.Proofs.YtlbnlmhcpephbaaGreatDoor
namespace Go.Proofs.YtlbnlmhcpephbaaGreatDoor
open Go.RowKit
section
variable {ps : List (Int × Int)} {q : Int} {k : Nat}
theorem mem_take_lt (hp : Posn ps q k) : ∀ x ∈ ps.take k, x.1 < q := by
 intro x hx
 obtain ⟨j, hj, rfl⟩ := List.getElem_of_mem hx
 rw [List.length_take] at hj
 have := hp.under j (by omega)
 rw [List.getElem_take]
 rw [List.getD_eq_getElem?_getD, List.getElem?_eq_getElem (by omega)] at this
 exact this
theorem mem_drop_ge (hp : Posn ps q k) : ∀ x ∈ ps.drop k, q ≤ x.1 := by
 intro x hx
 obtain ⟨j, hj, rfl⟩ := List.getElem_of_mem hx
 rw [List.length_drop] at hj
 have := hp.over (k + j) (by omega) (by omega)
 rw [List.getElem_drop]
 rw [List.getD_eq_getElem?_getD, List.getElem?_eq_getElem (by omega)] at this
 exact this
theorem posn_lt (hp : Posn ps q k) : ps.filter (fun x => decide (x.1 < q)) = ps.take k := by
 conv => lhs; rw [← List.take_append_drop k ps]
 rw [List.filter_append, List.filter_eq_self.2 (fun x hx => decide_eq_true (mem_take_lt hp x hx)), List.filter_eq_nil_iff.2 (fun x hx => by have := mem_drop_ge hp x hx; simp; omega), List.append_nil]
theorem drop_cons (h : k < ps.length) : ps.drop k = ps.getD k (0, 0) :: ps.drop (k + 1) := by
 rw [List.drop_eq_getElem_cons h, List.getD_eq_getElem?_getD, List.getElem?_eq_getElem h]
 rfl
theorem posn_found (hg : Gd ps) (hp : Posn ps q k) (hk : k < ps.length) (hq : (ps.getD k (0, 0)).1 = q) : ps.filter (fun x => decide (q < x.1)) = ps.drop (k + 1) ∧ cnt ps q = (ps.getD k (0, 0)).2 := by
 have hd := drop_cons hk
 have hgt : ∀ x ∈ ps.drop (k + 1), q < x.1 := by
  have := hg.srt
  rw [← List.take_append_drop k ps, hd] at this
  have h2 := (List.pairwise_append.1 this).2.1
  rw [List.pairwise_cons] at h2
  intro x hx
  have := h2.1 x hx
  omega
 have e : ps = ps.take k ++ ps.getD k (0, 0) :: ps.drop (k + 1) := by rw [← hd, List.take_append_drop]
 constructor
 ·conv => lhs; rw [e]
  rw [List.filter_append, List.filter_cons, List.filter_eq_nil_iff.2 (fun x hx => by have := mem_take_lt hp x hx; simp; omega), if_neg (by rw [decide_eq_true_eq]; omega), List.nil_append, List.filter_eq_self.2 (fun x hx => decide_eq_true (hgt x hx))]
 ·conv => lhs; rw [e]
  rw [cnt_append, cnt_cons, if_pos hq, cnt_zero (fun x hx => by have := mem_take_lt hp x hx; omega), cnt_zero (fun x hx => by have := hgt x hx; omega)]
  omega
theorem posn_none (hg : Gd ps) (hp : Posn ps q k) (hn : ¬ (k < ps.length ∧ (ps.getD k (0, 0)).1 = q)) : ps.filter (fun x => decide (q < x.1)) = ps.drop k ∧ cnt ps q = 0 := by
 have hgt : ∀ x ∈ ps.drop k, q < x.1 := by
  intro x hx
  by_cases hk : k < ps.length
  ·have hd := drop_cons hk
   have h0 := hp.over k (Nat.le_refl _) hk
   have h1 : (ps.getD k (0, 0)).1 ≠ q := fun e => hn ⟨hk, e⟩
   rw [hd] at hx
   rcases List.mem_cons.1 hx with rfl | hx
   ·omega
   ·have := hg.srt
    rw [← List.take_append_drop k ps, hd] at this
    have h2 := (List.pairwise_append.1 this).2.1
    rw [List.pairwise_cons] at h2
    have := h2.1 x hx
    omega
  ·rw [List.drop_of_length_le (by omega)] at hx; cases hx
 constructor
 ·conv => lhs; rw [← List.take_append_drop k ps]
  rw [List.filter_append, List.filter_eq_nil_iff.2 (fun x hx => by have := mem_take_lt hp x hx; simp; omega), List.nil_append, List.filter_eq_self.2 (fun x hx => decide_eq_true (hgt x hx))]
 ·rw [← List.take_append_drop k ps, cnt_append, cnt_zero (fun x hx => by have := mem_take_lt hp x hx; omega), cnt_zero (fun x hx => by have := hgt x hx; omega)]
  omega
end
theorem flatP_set (ps : List (Int × Int)) (k : Nat) (v : Int) (hk : k < ps.length) : flatP (ps.set k ((ps.getD k (0, 0)).1, v)) = (flatP ps).set (k * 2 + 1) (.int .u64 v) := by
  induction ps generalizing k with
  | nil => simp at hk
  | cons x ps ih =>
    cases k with
    | zero => simp [flatP_cons]
    | succ k =>
      have := ih k (by simpa using hk)
      rw [List.set_cons_succ, flatP_cons, flatP_cons, show (k + 1) * 2 + 1 = (k * 2 + 1) + 1 + 1 by omega]
      simp only [List.getD_cons_succ, List.cons_append, List.nil_append, List.set_cons_succ]
      rw [this]
def AddR (base : Nat) (A : Option Addr) (ps : List (Int × Int)) (q cc : Int) (w : World) (e : Ending) (w' : World) : Prop :=
 ∃ A' c', e = .returned (.slice A' (rowAdd ps q cc).length c') ∧ Own2 base w' A' c' (rowAdd ps q cc) ∧ Frame (blk A) w w' ∧ ∀ k ∈ blk A', k ∈ blk A ∨ w.heap.size ≤ k
set_option maxRecDepth 100000 in
set_option maxHeartbeats 2000000 in
theorem add06_any (base : Nat) (A : Option Addr) (c : Nat) (ps : List (Int × Int)) (q cc : Int) (w : World) (hown : Own2 base w A c ps) (hg : Gd ps) (hlen : ps.length ≤ 1048576) (hcc : 0 < cc) (hs : cnt ps q + cc < 18446744073709551616) (hb : base ≤ w.heap.size) :
    Calls Tryz.prog 127 #[.slice A ps.length c, .int .i64 q, .int .u64 cc] w fun e w' => AddR base A ps q cc w e w' := by
  have HC := Lib.hid (rfind06_any A c ps.length ps q w rfl hown.rd hg (by omega))
  have HE := Lib.hid (rowAdd_eq hg hcc hs)
  have HG := Lib.hid hg
  have HO := Lib.hid hown
  have HS := Lib.hid hs
  have hcap := hown.base_le
  obtain ⟨n, hn⟩ : ∃ n, ps.length = n := ⟨_, rfl⟩
  rw [hn] at HC hlen ⊢
  have HN := Lib.hid hn
  have hcc0 : (cc == 0) = false := beq_eq_false_iff_ne.2 (by omega)
  clear hn hg hown hs
  have HCC := Lib.hid hcc
  clear hcc
  go_enter Tryz.func127, Tryz.ntmps127
  go_wp2_with fail
  refine HC.out.mono ?_
  rintro e w1 ⟨⟨k, f, rfl, hp, hf⟩, hb1⟩
  replace HO := Lib.hid (HO.out.below hb1)
  have hz := hb1.size
  cases f with
  | true =>
    obtain ⟨hk, hq⟩ := hf.1 rfl
    obtain ⟨e1, e2⟩ := posn_found HG.out hp hk hq
    have e3 := posn_lt hp
    obtain ⟨g, rfl⟩ : ∃ g, A = some ⟨g, 0, none⟩ := by
      rcases HO.out.2 with ⟨_, h0⟩ | ⟨g, cp, cur, h, _⟩
      · omega
      · simp only [Value.slice.injEq] at h; exact ⟨g, h.1⟩
    have hr : rowAdd ps q cc = ps.set k ((ps.getD k (0, 0)).1, (ps.getD k (0, 0)).2 + cc) := by
      rw [HE.out, e1, e2, e3, List.set_eq_take_append_cons_drop, if_pos hk, List.append_assoc, hq]
      rfl
    obtain ⟨g', o', he, hg', hc1, hc2⟩ := HO.out.rd.at' k hk
    cases he
    have hown2 := own_setCell HO.out (o := k * 2 + 1) (by omega) (.int .u64 ((ps.getD k (0, 0)).2 + cc))
    rw [← flatP_set ps k _ hk, ← hr] at hown2
    have hrl : (rowAdd ps q cc).length = n := by rw [hr, List.length_set, HN.out]
    obtain ⟨v, hv⟩ : ∃ v, (ps.getD k (0, 0)).2 = v := ⟨_, rfl⟩
    rw [hv] at hc2 hown2
    have hfr : w1.frozen? ⟨g, k * 2 + 1, none⟩ = false := by
      obtain ⟨cur, hcg, _⟩ := own_setRow w1 HO.out
      simp [World.frozen?, hcg]
    have hv0 := HG.out.pos (ps.getD k (0, 0)) (getD_mem' hk)
    rw [hv] at hv0
    have hvs : v + cc < 18446744073709551616 := by have := HS.out; rw [e2, hv] at this; exact this
    have hw : IntKind.u64.wrap (v + cc) = v + cc := by simp only [IntKind.wrap_u64]; have := HCC.out; omega
    have hkn : k < n := by rw [← HN.out]; exact hk
    have k0 : (0 : Int) ≤ k := by omega
    have k1 : (k : Int) < n := by omega
    have HR : Hid (AddR base (some ⟨g, 0, none⟩) ps q cc w (.returned (.slice (some ⟨g, 0, none⟩) n c)) (w1.setCell ⟨g, k * 2 + 1, none⟩ (.int .u64 (v + cc)))) := by
      refine ⟨some ⟨g, 0, none⟩, c, by rw [hrl], ?_, (Frame.of_below hb1).setc (.inl (by simp [blk])) _ _, fun j hj => .inl hj⟩
      unfold Own2
      rw [hrl]
      rw [HN.out] at hown2
      exact hown2
    simp only [Nat.zero_add] at hc1 hc2
    clear hown2 hr hrl e1 e2 e3 hf hp hq hv hvs hv0 hk HC HE HG HO hb1 hcap
    go_wp2
    go_ret
    exact HR.out
  | false =>
    have hnf : ¬ (k < ps.length ∧ (ps.getD k (0, 0)).1 = q) := fun h => by have := hf.2 h; cases this
    obtain ⟨e1, e2⟩ := posn_none HG.out hp hnf
    have e3 := posn_lt hp
    have hr : rowAdd ps q cc = ps.take k ++ (q, cc) :: ps.drop k := by
      rw [HE.out, e1, e2, e3, Int.zero_add, List.append_assoc]
      rfl
    have hk : k ≤ ps.length := hp.le
    have hrl : (rowAdd ps q cc).length = n + 1 := by rw [hr, List.length_append, List.length_cons, List.length_take, List.length_drop, HN.out]; have := HN.out; omega
    have HP := Lib.hid (And.intro hr (And.intro hk hrl))
    clear hr hk hrl e1 e2 e3 hf hp hnf
    go_wp2_with fail
    have hown2 : Own2 base (w1.alloc (.cells #[.int .i64 q, .int .u64 cc] 247)) A c ps := HO.out.alloc _
    have HI := insert_any base A c k ps (q, cc) w1.heap.size _ hown2 HP.out.2.1 (by rw [HN.out]; exact hlen) (At.new w1 #[.int .i64 q, .int .u64 cc] 247)
      (fun j hj e => by
        cases A with
        | none => simp [blk] at hj
        | some a =>
          simp only [blk, List.mem_singleton] at hj
          have := (hcap a rfl).2
          omega) (by simp; omega)
    rw [HN.out] at HI
    refine HI.mono ?_
    rintro e w2 ⟨A', c', rfl, ho, hfr, hkk⟩
    rw [HN.out]
    have HR : Hid (AddR base A ps q cc w (.returned (.slice A' (n + 1) c')) w2) := by
      refine ⟨A', c', by rw [HP.out.2.2], ?_, ((Frame.of_below hb1).alloc _).trans hfr, fun j hj => ?_⟩
      · rw [HP.out.1]; exact ho
      · rcases hkk j hj with h | h
        · exact .inl h
        · exact .inr (by simp at h; omega)
    clear ho hfr hkk HI hown2
    go_wp2
    go_ret
    exact HR.out
end Go.Proofs.YtlbnlmhcpephbaaGreatDoor
