/- Contracts of package strip: New, Len, Total, At, Pairs, Ends. -/
import Derived.Test.YtooojpicbbpaaaaProg
import Derived.Test.YtooojpicbbpaaaaRunsAdd
import Derived.Test.YtooojpicbbpaaaaPlus
import Derived.BigQuiet
import Derived.Deep.QuietTactic
namespace Go.Proofs.Ytooojpicbbpaaaa
open Go.RowKit

structure StripB (w : World) (b : Nat) (A : Option Addr) (c : Nat) (most : Int) (ps : List (Int × Int)) : Prop where
  at' : At w b #[.int .i64 most, .slice A ps.length c, .int .u64 (sumP ps)] 72
  own : Own2 0 w A c ps
  ne : b ∉ blk A
  gd : Gd ps
  ok : okP ps
  sum : sumP ps ≤ 9223372036854775807
  len : (ps.length : Int) ≤ most
  most1 : most ≤ 4096
/-- A strip, and the blocks that are its own. -/
def Strip (w : World) (b : Nat) (S : List Nat) (most : Int) (ps : List (Int × Int)) : Prop := ∃ A c, S = b :: blk A ∧ StripB w b A c most ps

section
variable {w w' : World} {b : Nat} {S T : List Nat} {most : Int} {ps : List (Int × Int)}
theorem Own2.frame {base c : Nat} {A : Option Addr} (h : Own2 base w A c ps) (hf : Frame T w w') (hn : ∀ k ∈ blk A, k ∉ T) : Own2 base w' A c ps := by
  obtain ⟨h1, h2⟩ := h
  refine ⟨h1, ?_⟩
  rcases h2 with h2 | ⟨g, cp, cur, e, hg, hc, r⟩
  · exact .inl h2
  · refine .inr ⟨g, cp, cur, e, hg, (hf.block g (Array.getElem?_eq_some_iff.1 hc).1 (hn g ?_)).trans hc, r⟩
    simp only [Value.slice.injEq] at e
    rw [e.1]
    simp [blk]
theorem Strip.frame (h : Strip w b S most ps) (hf : Frame T w w') (hn : Apart S T) : Strip w' b S most ps := by
  obtain ⟨A, c, rfl, h⟩ := h
  exact ⟨A, c, rfl, hf.at h.at' (hn b (by simp)), h.own.frame hf (fun k hk => hn k (by simp [hk])), h.ne, h.gd, h.ok, h.sum, h.len, h.most1⟩
theorem Strip.below (h : Strip w b S most ps) (hb : Below w.heap.size w w') : Strip w' b S most ps := h.frame (T := []) (Frame.of_below hb) (fun _ _ => by simp)
theorem Strip.lt (h : Strip w b S most ps) : ∀ k ∈ S, k < w.heap.size := by
  obtain ⟨A, c, rfl, h⟩ := h
  intro k hk
  rcases List.mem_cons.1 hk with rfl | hk
  · exact h.at'.lt
  · cases A with
    | none => simp [blk] at hk
    | some a => simp only [blk, List.mem_singleton] at hk; subst hk; exact (h.own.base_le a rfl).2
theorem Strip.gd (h : Strip w b S most ps) : Gd ps := by obtain ⟨A, c, _, h⟩ := h; exact h.gd
theorem Strip.ok (h : Strip w b S most ps) : okP ps := by obtain ⟨A, c, _, h⟩ := h; exact h.ok
theorem Strip.sum (h : Strip w b S most ps) : sumP ps ≤ 9223372036854775807 := by obtain ⟨A, c, _, h⟩ := h; exact h.sum
theorem Strip.len (h : Strip w b S most ps) : (ps.length : Int) ≤ most ∧ ps.length ≤ 4096 := by obtain ⟨A, c, _, h⟩ := h; exact ⟨h.len, by have := h.len; have := h.most1; omega⟩
end

theorem snew_any (most : Int) (w : World) (h1 : 1 ≤ most) (h2 : most ≤ 4096) :
    Calls Try.prog 32 #[.int .i64 most] w fun e w' => (∃ b, e = .returned (.tuple #[.pointer (some ⟨b, 0, none⟩), .int .i64 0]) ∧ b = w.heap.size ∧ Strip w' b [b] most []) ∧ Below w.heap.size w w' := by
  have hs : At (w.alloc (.cells #[.int .i64 most, .slice none 0 0, .int .u64 0] 72)) w.heap.size #[.int .i64 most, .slice none 0 0, .int .u64 0] 72 := At.new w _ _
  have HS : Hid (Strip (w.alloc (.cells #[.int .i64 most, .slice none 0 0, .int .u64 0] 72)) w.heap.size [w.heap.size] most []) := ⟨none, 0, rfl, hs, Own2.nil _ _, by simp [blk], Gd.nil, fun x hx => by simp at hx, by rw [sumP_nil]; omega, by simp; omega, h2⟩
  clear hs
  have n1 : ¬ most < 1 := by omega
  have n2 : ¬ 4096 < most := by omega
  clear h1 h2
  go_enter Try.func32, Try.ntmps32
  go_wp2
  go_ret2
  exact ⟨⟨_, rfl, rfl, HS.out⟩, (by repeat (first | with_reducible assumption | with_reducible exact Below.refl _ _ | with_reducible refine Below.drew ?_ | with_reducible refine Below.drewN ?_ _ | with_reducible refine Below.setCell ?_ (by first | omega | (simp; done) | (simp; omega)) _ | with_reducible refine Below.alloc ?_ (by first | omega | (simp; done) | (simp; omega) | (simp [World.setCell]; omega)) _))⟩
theorem snew_bad (most : Int) (w : World) (h : most < 1 ∨ 4096 < most) :
    Calls Try.prog 32 #[.int .i64 most] w fun e w' => e = .returned (.tuple #[.pointer none, .int .i64 1]) ∧ w = w' := by
  by_cases h1 : most < 1
  · clear h
    go_enter Try.func32, Try.ntmps32
    go_wp2
    go_ret2
    exact ⟨rfl, rfl⟩
  · have h2 : 4096 < most := by omega
    clear h
    go_enter Try.func32, Try.ntmps32
    go_wp2
    go_ret2
    exact ⟨rfl, rfl⟩

theorem slen_any (b : Nat) (S : List Nat) (most : Int) (ps : List (Int × Int)) (w : World) (h : Strip w b S most ps) :
    Calls Try.prog 54 #[.pointer (some ⟨b, 0, none⟩)] w fun e w' => e = .returned (.int .i64 (ps.length : Nat)) ∧ w = w' := by
  obtain ⟨A, c, _, h⟩ := h
  have f1 := h.at'.three
  clear h
  go_enter Try.func54, Try.ntmps54
  go_wp2
  go_ret
  exact ⟨rfl, rfl⟩
theorem stotal_any (b : Nat) (S : List Nat) (most : Int) (ps : List (Int × Int)) (w : World) (h : Strip w b S most ps) :
    Calls Try.prog 37 #[.pointer (some ⟨b, 0, none⟩)] w fun e w' => e = .returned (.int .u64 (sumP ps)) ∧ w = w' := by
  obtain ⟨A, c, _, h⟩ := h
  have f1 := h.at'.three
  clear h
  go_enter Try.func37, Try.ntmps37
  go_wp2
  go_ret
  exact ⟨rfl, rfl⟩
theorem spairs_any (b : Nat) (S : List Nat) (most : Int) (ps : List (Int × Int)) (w : World) (h : Strip w b S most ps) :
    Calls Try.prog 36 #[.pointer (some ⟨b, 0, none⟩)] w fun e w' => CloR ps w e w' := by
  have hl := h.len.2
  obtain ⟨A, c, _, h⟩ := h
  have f1 := h.at'.three
  have HC := Lib.hid (clone_any 0 A c ps w h.own (by omega))
  clear h
  go_enter Try.func36, Try.ntmps36
  go_wp2_with fail
  refine HC.out.mono ?_
  rintro e w' ⟨A', c', rfl, ho, hb⟩
  have HR : Hid (CloR ps w (.returned (.slice A' ps.length c')) w') := ⟨A', c', rfl, ho, hb⟩
  clear ho hb
  go_wp2
  go_ret
  exact HR.out

set_option maxRecDepth 100000 in
theorem sat_any (b : Nat) (S : List Nat) (most : Int) (ps : List (Int × Int)) (q : Int) (w : World) (h : Strip w b S most ps) :
    Calls Try.prog 38 #[.pointer (some ⟨b, 0, none⟩), .int .i64 q] w fun e w' => e = .returned (.int .u64 (cnt ps q)) ∧ Below w.heap.size w w' := by
  have hl := h.len.2
  have hg := h.gd
  obtain ⟨A, c, _, h⟩ := h
  have s1 := h.at'
  have f1 := h.at'.three
  have HC := Lib.hid (rfind06_any A c ps.length ps q w rfl h.own.rd hg (by omega))
  have HO := Lib.hid h.own.rd
  have HG := Lib.hid hg
  clear h hg
  obtain ⟨n, hn⟩ : ∃ n, ps.length = n := ⟨_, rfl⟩
  have HN := Lib.hid hn
  rw [hn] at HC s1 f1
  clear hn
  go_enter Try.func38, Try.ntmps38
  go_wp2_with fail
  refine HC.out.mono ?_
  rintro e w1 ⟨⟨k, f, rfl, hp, hf⟩, hb1⟩
  have f2 := (s1.below hb1).three
  clear f1
  cases f with
  | true =>
    obtain ⟨hk, hq⟩ := hf.1 rfl
    have HV := Lib.hid (posn_found HG.out hp hk hq).2
    obtain ⟨g, o, rfl, hg, hc1, hc2⟩ := (HO.out.below hb1).at' k hk
    obtain ⟨v, hv⟩ : ∃ v, (ps.getD k (0, 0)).2 = v := ⟨_, rfl⟩
    rw [hv] at hc2 HV
    have k0 : (0 : Int) ≤ k := by omega
    have k1 : (k : Int) < n := by have := HN.out; omega
    clear hf hp hq hk hc1 hv
    go_wp2
    go_ret
    exact ⟨by rw [HV.out]; rfl, hb1⟩
  | false =>
    have HV := Lib.hid (posn_none HG.out hp (fun h => by have := hf.2 h; cases this)).2
    clear hf hp
    go_wp2
    go_ret
    exact ⟨by rw [HV.out]; rfl, hb1⟩

/-- The ends. -/
def endsV (ps : List (Int × Int)) : Value := if ps.length = 0 then .tuple #[.int .i64 0, .int .i64 0, .bool false] else .tuple #[.int .i64 (ps.getD 0 (0, 0)).1, .int .i64 (ps.getD (ps.length - 1) (0, 0)).1, .bool true]
set_option maxRecDepth 100000 in
theorem sends_any (b : Nat) (S : List Nat) (most : Int) (ps : List (Int × Int)) (w : World) (h : Strip w b S most ps) :
    Calls Try.prog 49 #[.pointer (some ⟨b, 0, none⟩)] w fun e w' => e = .returned (endsV ps) ∧ Below w.heap.size w w' := by
  have hl := h.len.2
  have HL := Lib.hid (slen_any b S most ps w h)
  obtain ⟨A, c, _, h⟩ := h
  have f1 := h.at'.three
  have HO := Lib.hid h.own.rd
  clear h
  obtain ⟨n, hn⟩ : ∃ n, ps.length = n := ⟨_, rfl⟩
  have HN := Lib.hid hn
  have HV : Hid (endsV ps = if n = 0 then .tuple #[.int .i64 0, .int .i64 0, .bool false] else .tuple #[.int .i64 (ps.getD 0 (0, 0)).1, .int .i64 (ps.getD (n - 1) (0, 0)).1, .bool true]) := by show _ = _; unfold endsV; rw [hn]
  rw [hn] at HL f1 hl
  clear hn
  by_cases h0 : n = 0
  · subst h0
    go_enter Try.func49, Try.ntmps49
    go_wp2_with fail
    refine HL.out.mono ?_
    rintro e w1 ⟨rfl, rfl⟩
    go_wp2
    go_ret3
    exact ⟨by rw [HV.out]; rfl, Below.refl _ _⟩
  · obtain ⟨g, o, rfl, hg, hc1, hc2⟩ := HO.out.at' 0 (by have := HN.out; omega)
    obtain ⟨g', o', e, hg', hd1, hd2⟩ := HO.out.at' (n - 1) (by have := HN.out; omega)
    cases e
    obtain ⟨x, hx⟩ : ∃ x, (ps.getD 0 (0, 0)).1 = x := ⟨_, rfl⟩
    obtain ⟨y, hy⟩ : ∃ y, (ps.getD (n - 1) (0, 0)).1 = y := ⟨_, rfl⟩
    rw [hx] at hc1 HV
    rw [hy] at hd1 HV
    obtain ⟨m, rfl⟩ : ∃ m, n = m + 1 := ⟨n - 1, by omega⟩
    have v1 : IntKind.i64.wrap (((m + 1 : Nat) : Int) - 1) = m := by simp only [IntKind.wrap_i64]; omega
    rw [Nat.add_sub_cancel] at hd1
    rw [Nat.zero_mul, Nat.add_zero] at hc1
    have n0 : ((((m + 1 : Nat)) : Int) == 0) = false := beq_eq_false_iff_ne.2 (by omega)
    have k0 : (0 : Int) ≤ m := by omega
    have k1 : (m : Int) < ((m + 1 : Nat) : Int) := by omega
    have k2 : (0 : Int) < ((m + 1 : Nat) : Int) := by omega
    clear hx hy h0 hd2 hc2
    go_enter Try.func49, Try.ntmps49
    go_wp2_with fail
    refine HL.out.mono ?_
    rintro e w1 ⟨rfl, rfl⟩
    go_wp2
    go_quiet (fail)
    go_wp2
    go_ret3
    exact ⟨by rw [HV.out]; first | rfl | simp, (Below.refl _ _).drewN _⟩
end Go.Proofs.Ytooojpicbbpaaaa

