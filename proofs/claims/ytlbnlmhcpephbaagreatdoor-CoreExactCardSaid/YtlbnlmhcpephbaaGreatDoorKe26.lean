/- Texts of this claim, joined, indents halved: Top2, PtrRow, Top3, Top4. -/
import Derived.Test.YtlbnlmhcpephbaaGreatDoorProg
import Derived.Test.YtlbnlmhcpephbaaGreatDoorKe25
namespace Go.Proofs.YtlbnlmhcpephbaaGreatDoor
open Go.RowKit
structure MadeJ (Sk : SkT) (w W : World) (b : Nat) (S : List Nat) (A : Option Addr) (cap n : Nat) (l : List (Int × Int)) : Prop where
 sk : Sk W b S l
 ws : Within S w.heap.size W.heap.size
 own : OwnV w.heap.size W A cap l
 ap : Apart S (blk A)
 lok : LOk l
 len : l.length = n
 bl : Below w.heap.size w W
 lt : b < W.heap.size
def MadeR (Sk : SkT) (w : World) (e : Ending) (w' : World) : Prop :=
 (Below w.heap.size w w' ∧ ∃ v0 v1, e = .returned (.tuple #[v0, v1, .bool false])) ∨
 ∃ b S A cap n l, e = .returned (.tuple #[.pointer (some ⟨b, 0, none⟩), .slice A n cap, .bool true]) ∧ n ≤ 30 ∧ MadeJ Sk w w' b S A cap n l
section
variable {c : Cfg} {Sk : SkT} {w w0 W W' : World} {b : Nat} {S S' : List Nat} {A A' : Option Addr} {cap cap' n n' : Nat} {l l' : List (Int × Int)}
theorem MadeJ.below (K : KindC c Sk) (h : MadeJ Sk w W b S A cap n l) (hb : Below W.heap.size W W') : MadeJ Sk w W' b S A cap n l :=
 ⟨K.below h.sk hb, h.ws.mono hb.size, h.own.below hb, h.ap, h.lok, h.len, keep1 h.bl hb, Nat.lt_of_lt_of_le h.lt hb.size⟩
theorem MadeJ.step (K : KindC c Sk) (h : MadeJ Sk w W b S A cap n l) (hg : GrownS S S' W.heap.size) (hs : Sk W' b S' l) (hF : Frame S W W') : MadeJ Sk w W' b S' A cap n l :=
 ⟨hs, h.ws.grown hg h.bl.size (K.lt hs), h.own.frame hF fun k hk hm => h.ap k hm hk, fun k hk hm => by
  rcases hg k hk with h1 | h1
  ·exact h.ap k h1 hm
  ·have := (h.own.blk_le k hm).2; omega, h.lok, h.len, hF.below' h.bl h.bl.size h.ws, Nat.lt_of_lt_of_le h.lt hF.size⟩
structure MadeK (Sk : SkT) (w W : World) (b : Nat) (S : List Nat) (A : Option Addr) (cap n : Nat) (l l' : List (Int × Int)) : Prop where
 sk : Sk W b S l'
 ws : Within S w.heap.size W.heap.size
 own : OwnV w.heap.size W A cap l
 ap : Apart S (blk A)
 lok : LOk l'
 len : l.length = n
 bl : Below w.heap.size w W
 lt : b < W.heap.size
theorem MadeJ.put (K : KindC c Sk) (h : MadeJ Sk w W b S A cap n l) (hg : GrownS S S' W.heap.size) (hs : Sk W' b S' l') (hl : LOk l') (hF : Frame S W W') : MadeK Sk w W' b S' A cap n l l' :=
 ⟨hs, h.ws.grown hg h.bl.size (K.lt hs), h.own.frame hF fun k hk hm => h.ap k hm hk, fun k hk hm => by
  rcases hg k hk with h1 | h1
  ·exact h.ap k h1 hm
  ·have := (h.own.blk_le k hm).2; omega, hl, h.len, hF.below' h.bl h.bl.size h.ws, Nat.lt_of_lt_of_le h.lt hF.size⟩
theorem MadeK.below (K : KindC c Sk) (h : MadeK Sk w W b S A cap n l l') (hb : Below W.heap.size W W') : MadeK Sk w W' b S A cap n l l' :=
 ⟨K.below h.sk hb, h.ws.mono hb.size, h.own.below hb, h.ap, h.lok, h.len, keep1 h.bl hb, Nat.lt_of_lt_of_le h.lt hb.size⟩
theorem MadeK.app (K : KindC c Sk) (h : MadeK Sk w W b S A cap n l l') (ho : OwnV w.heap.size W' A' cap' l') (hF : Frame (blk A) W W') (hB : ∀ k ∈ blk A', k ∈ blk A ∨ W.heap.size ≤ k) (hn : l'.length = n') : MadeJ Sk w W' b S A' cap' n' l' :=
 ⟨K.frame h.sk hF h.ap, h.ws.mono hF.size, ho, fun k hk hm => by
  rcases hB k hm with h1 | h1
  ·exact h.ap k hk h1
  ·have := (h.ws k hk).2; omega, h.lok, hn, hF.below h.bl h.bl.size fun k hk => (h.own.blk_le k hk).1, Nat.lt_of_lt_of_le h.lt hF.size⟩
theorem MadeJ.out (h : MadeJ Sk w W b S A cap n l) (hb : Below w0.heap.size w0 w) : MadeJ Sk w0 W b S A cap n l :=
 ⟨h.sk, fun k hk => ⟨Nat.le_trans hb.size (h.ws k hk).1, (h.ws k hk).2⟩, h.own.mono hb.size, h.ap, h.lok, h.len, keep1 hb h.bl, h.lt⟩
theorem MadeJ.swap (K : KindC c Sk) (h : MadeJ Sk w W b S A cap n l) {b' : Nat} (hs : Sk W' b' S' l) (hW : Within S' W.heap.size W'.heap.size) (hb : Below W.heap.size W W') (hlt : b' < W'.heap.size) : MadeJ Sk w W' b' S' A cap n l :=
 ⟨hs, fun k hk => ⟨Nat.le_trans h.bl.size (hW k hk).1, (hW k hk).2⟩, h.own.below hb, fun k hk hm => by have := (hW k hk).1; have := (h.own.blk_le k hm).2; omega, h.lok, h.len, keep1 h.bl hb, hlt⟩
end
set_option maxRecDepth 100000 in
set_option maxHeartbeats 4000000 in
theorem made_any {c : Cfg} {Sk : SkT} (K : KindC c Sk) (xA : Option Addr) (n xc : Nat) (xv : List (Int × Int)) (xb : Bool) (w : World) (hT : TensAt w) (hR : RdP w xA xv) (hok : okP xv) (hn : xv.length = n) (h30 : n ≤ 30) (h20 : ∀ v ∈ xv, v.2 ≤ 20) :
    Calls Tryz.prog 27 #[c.val, .agg #[.slice xA n xc, .bool xb]] w fun e w' => MadeR Sk w e w' := by
  have HK : Hid (KindC c Sk) := K
  have HR := Lib.hid hR
  have HO := Lib.hid hok
  have HN := Lib.hid hn
  have H20 := Lib.hid h20
  have HT := Lib.hid hT
  have HNEW := Lib.hid fun W hW => K.new W hW
  have HMEM : Hid (∀ (w : World) (b : Nat) (S : List Nat) (l : List (Int × Int)), Sk w b S l → b ∈ S) := fun _ _ _ _ h => K.mem h
  obtain ⟨cv, hcv⟩ : ∃ v, c.val = v := ⟨_, rfl⟩
  rw [hcv] at HNEW ⊢
  have hcr : ∃ kd pn pd sd mo dg li de fa wi wo : Int, cv = .agg #[.int .i64 kd, .int .u64 pn, .int .u64 pd, .int .i64 sd, .int .i64 mo, .int .i64 dg, .int .u64 li, .int .i64 de, .int .i64 fa, .int .i64 wi, .int .u64 wo] := ⟨_, _, _, _, _, _, _, _, _, _, _, hcv.symm⟩
  obtain ⟨kd, pn, pd, sd, mo, dg, li, de, fa, wi, wo, rfl⟩ := hcr
  clear hcv hR hok hn h20 hT K
  have ac := (At.new w #[.int .i64 kd, .int .u64 pn, .int .u64 pd, .int .i64 sd, .int .i64 mo, .int .i64 dg, .int .u64 li, .int .i64 de, .int .i64 fa, .int .i64 wi, .int .u64 wo] 28).alloc (.cells #[.slice xA n xc, .bool xb] 70)
  have al := At.new' (w.alloc (.cells #[.int .i64 kd, .int .u64 pn, .int .u64 pd, .int .i64 sd, .int .i64 mo, .int .i64 dg, .int .u64 li, .int .i64 de, .int .i64 fa, .int .i64 wi, .int .u64 wo] 28)) #[.slice xA n xc, .bool xb] 70 (b := w.heap.size + 1) (by simp)
  have hba : Below w.heap.size w ((w.alloc (.cells #[.int .i64 kd, .int .u64 pn, .int .u64 pd, .int .i64 sd, .int .i64 mo, .int .i64 dg, .int .u64 li, .int .i64 de, .int .i64 fa, .int .i64 wi, .int .u64 wo] 28)).alloc (.cells #[.slice xA n xc, .bool xb] 70)) := ((Below.refl _ _).alloc (Nat.le_refl _) _).alloc (by first | omega | (simp; done) | (simp; omega) | (simp [World.setCell]; omega)) _
  go_enter Tryz.func27, Tryz.ntmps27
  have f0 := ac.el
  have l0 := ac.lt
  go_wp2_with fail
  obtain ⟨W1, hW1⟩ : ∃ W, ((w.alloc (.cells #[.int .i64 kd, .int .u64 pn, .int .u64 pd, .int .i64 sd, .int .i64 mo, .int .i64 dg, .int .u64 li, .int .i64 de, .int .i64 fa, .int .i64 wi, .int .u64 wo] 28)).alloc (.cells #[.slice xA n xc, .bool xb] 70)) = W := ⟨_, rfl⟩
  obtain ⟨lb, hlb⟩ : ∃ r, w.heap.size + 1 = r := ⟨_, rfl⟩
  rw [hW1] at hba al
  rw [hlb] at al
  simp only [hW1, hlb]
  have HB1 := Lib.hid hba
  have HAL := Lib.hid al
  clear hW1 hlb hba al ac f0 l0
  have HNEW1 := Lib.hid (HNEW.out W1 (HT.out.below HB1.out))
  refine HNEW1.out.mono ?_
  rintro e w2 ⟨⟨b, S, rfl, hW, hS⟩ | ⟨f, hf, rfl⟩, hb⟩
  rotate_left
  · have HF : Hid (MadeR Sk w (.returned (.tuple #[.pointer none, .slice none 0 0, .bool false])) w2) := .inl ⟨keep1 HB1.out hb, _, _, rfl⟩
    have hfz : (f == 0) = false := beq_eq_false_iff_ne.2 hf
    clear hb hf
    go_wp2
    go_ret3
    exact HF.out
  have H2 : Hid (MadeJ Sk W1 w2 b S none 0 0 []) := ⟨hS, hW, OwnV.nil _ _, fun k _ hm => by simp [blk] at hm, LOk.nil, rfl, hb, HK.out.lt hS _ (HMEM.out _ _ _ _ hS)⟩
  have a2 := HAL.out.below hb
  have f2 := a2.two
  have l2 := a2.lt
  clear hW hS hb HNEW HNEW1
  go_wp2
  clear f2 l2 a2
  go_loopw [9, 24] (fun vals i wr => ∃ k : Nat, k ≤ n ∧ i = .int .i64 k ∧ ∃ S A cap m l, m ≤ k ∧ vals = .slice A m cap ∧ Hid (MadeJ Sk W1 wr b S A cap m l)) (fun _ i _ => n - (intOf i).toNat)
  case atStart => exact ⟨0, by omega, rfl, S, none, 0, 0, [], by omega, rfl, H2⟩
  case round =>
    obtain ⟨k, hk, rfl, S', A, cap, m, l, hmk, rfl, H⟩ := hrel
    clear H2
    by_cases hlt : k < n
    · have HKL : Hid (k < xv.length) := by have := HN.out; show _ < _; omega
      obtain ⟨g, o, rfl, hg, c1, c2⟩ := (HR.out.below (keep1 HB1.out H.out.bl)).at k HKL.out
      have HX := Lib.hid (And.intro (HO.out.at k HKL.out) (H20.out _ (List.getElem_mem HKL.out)))
      obtain ⟨⟨x, y⟩, hxy⟩ : ∃ x, xv[k]'HKL.out = x := ⟨_, rfl⟩
      rw [hxy] at c1 c2 HX
      dsimp only at c1 c2 HX
      have hbe : Below wr.heap.size wr (wr.alloc (.cells #[.int .i64 x, .int .u64 y] 54)) := (Below.refl _ _).alloc (Nat.le_refl _) _
      have H1 := Lib.hid (H.out.below HK.out hbe)
      have HV := Lib.hid (At.new wr #[.int .i64 x, .int .u64 y] 54)
      have HVN : Hid (wr.heap.size ∉ S') := fun hm => by have := (H.out.ws _ hm).2; omega
      have HPUT := Lib.hid (HK.out.put b S' l x y _ H1.out.sk H1.out.lok (by have := H1.out.len; omega) HX.out.1.1 ⟨HX.out.1.2.1, HX.out.2⟩)
      clear hxy hbe H
      go_wp2_with fail
      obtain ⟨W2, hW2⟩ : ∃ W, wr.alloc (.cells #[.int .i64 x, .int .u64 y] 54) = W := ⟨_, rfl⟩
      obtain ⟨vb, hvb⟩ : ∃ r, wr.heap.size = r := ⟨_, rfl⟩
      rw [hW2] at H1 HV HPUT
      rw [hvb] at HV HVN
      simp only [hW2, hvb]
      clear hW2 hvb c1 c2 hg
      refine HPUT.out.mono ?_
      rintro e w3 ⟨f, rfl, ⟨rfl, hy0, S3, hg3, hS3, hF3⟩ | ⟨hf, S3, hg3, hS3, hF3⟩⟩
      · have HLO : Hid (LOk (l ++ [(x, y)])) := H1.out.lok.snoc (by have := H1.out.len; omega) HX.out.1.1 ⟨hy0, HX.out.2⟩
        have H3 := Lib.hid (H1.out.put HK.out hg3 hS3 HLO.out hF3)
        have a3 := hF3.at HV.out HVN.out
        have f3 := a3.two
        have l3 := a3.lt
        have hbe : Below w3.heap.size w3 (w3.alloc (.cells #[.int .i64 x, .int .u64 y] 54)) := (Below.refl _ _).alloc (Nat.le_refl _) _
        have H4 := Lib.hid (H3.out.below HK.out hbe)
        have HRV := Lib.hid (rdV_new w3 x y)
        clear hg3 hS3 hF3 HV HVN HPUT H1 H3 hbe a3 hy0
        go_wp2_with (first | (at_builtin; refine wpList_append_valsF rfl _ _ rfl W1.heap.size A cap m l rfl H4.out.len H4.out.own (some ⟨w3.heap.size, 0, none⟩) 1 1 [(x, y)] rfl rfl HRV.out (by omega) H4.out.bl.size ?_; intro A' cap' w5 HO5 hF5 hB5) | fail)
        have H5 : Hid (MadeJ Sk W1 w5 b S3 A' cap' (m + 1) (l ++ [(x, y)])) := H4.out.app HK.out HO5.out hF5 hB5 (by rw [List.length_append, H4.out.len]; rfl)
        clear HO5 hF5 hB5 H4 HRV f3 l3
        go_wp2
        go_roundw
        case rel => exact ⟨k + 1, by omega, by simp, S3, A', cap', m + 1, _, by omega, rfl, H5⟩
        case measure => simp [intOf]; omega
      · have H3 := Lib.hid (H1.out.step HK.out hg3 hS3 hF3)
        have hfz : (f == 0) = false := beq_eq_false_iff_ne.2 hf
        clear hg3 hS3 hF3 HV HVN HPUT H1 hf
        go_wp2
        go_roundw
        case rel => exact ⟨k + 1, by omega, by simp, S3, A, cap, m, l, by omega, rfl, H3⟩
        case measure => simp [intOf]; omega
    · obtain rfl : k = n := by omega
      have a3 := HAL.out.below H.out.bl
      have f3 := a3.two
      have l3 := a3.lt
      clear hlt
      cases xb with
      | false =>
        have HF : Hid (MadeR Sk w (.returned (.tuple #[.pointer (some ⟨b, 0, none⟩), .slice A m cap, .bool true])) wr) := .inr ⟨b, S', A, cap, m, l, rfl, by omega, H.out.out HB1.out⟩
        go_wp2
        go_ret3
        exact HF.out
      | true =>
        have HBY := Lib.hid (tbytes_any HK.out b S' l wr H.out.sk H.out.lok)
        go_wp2_with fail
        refine HBY.out.mono ?_
        rintro e w4 ⟨st, rfl, hb, hD⟩
        have H4 := Lib.hid (H.out.below HK.out hb)
        have HD := Lib.hid (hD w4 (HT.out.below (keep1 HB1.out H4.out.bl)))
        clear hb hD HBY H f3 l3 a3
        go_wp2_with fail
        refine HD.out.mono ?_
        rintro e w5 ⟨⟨b', S5, rfl, hW, hS⟩ | ⟨f, hf, rfl⟩, hb⟩
        · have HF : Hid (MadeR Sk w (.returned (.tuple #[.pointer (some ⟨b', 0, none⟩), .slice A m cap, .bool true])) w5) := .inr ⟨b', S5, A, cap, m, l, rfl, by omega, (H4.out.swap HK.out hS hW hb (HK.out.lt hS _ (HMEM.out _ _ _ _ hS))).out HB1.out⟩
          clear hW hS hb
          go_wp2
          go_ret3
          exact HF.out
        · have HF : Hid (MadeR Sk w (.returned (.tuple #[.pointer none, .slice A m cap, .bool false])) w5) := .inl ⟨keep1 HB1.out (keep1 H4.out.bl hb), _, _, rfl⟩
          have hfz : (f == 0) = false := beq_eq_false_iff_ne.2 hf
          clear hb hf
          go_wp2
          go_ret3
          exact HF.out
end Go.Proofs.YtlbnlmhcpephbaaGreatDoor

namespace Go.Proofs.YtlbnlmhcpephbaaGreatDoor
open Go.RowKit
def ptrV (bs : List Nat) : List Value := bs.map fun b => .pointer (some ⟨b, 0, none⟩)
theorem ptrV_append (bs cs : List Nat) : ptrV (bs ++ cs) = ptrV bs ++ ptrV cs := List.map_append
theorem ptrV_len (bs : List Nat) : (ptrV bs).length = bs.length := List.length_map _
theorem ptrV_one {bs : List Nat} : ∀ u ∈ ptrV bs, u.oneCell' = true := by
 intro u hu
 unfold ptrV at hu
 obtain ⟨b, _, rfl⟩ := List.mem_map.1 hu
 rfl
def OwnT (base : Nat) (w : World) (A : Option Addr) (cap : Nat) (bs : List Nat) : Prop := w.ownsRow base 34 1 (.slice A bs.length cap) bs.length (ptrV bs)
def RdT (w : World) (A : Option Addr) (bs : List Nat) : Prop := Rd w A (ptrV bs)
theorem RdT.below {w w' : World} {A : Option Addr} {bs : List Nat} (h : RdT w A bs) (hb : Below w.heap.size w w') : RdT w' A bs := Rd.below h hb
theorem RdT.at {w : World} {A : Option Addr} {bs : List Nat} (h : RdT w A bs) (j : Nat) (hj : j < bs.length) : ∃ g o, A = some ⟨g, o, none⟩ ∧ g < w.heap.size ∧ w.cell? ⟨g, o + j, none⟩ = some (.pointer (some ⟨bs[j]'hj, 0, none⟩)) := by
 obtain ⟨g, o, e, hg, hc⟩ := h j (.pointer (some ⟨bs[j]'hj, 0, none⟩)) (by unfold ptrV; rw [List.getElem?_map, List.getElem?_eq_getElem hj]; rfl)
 exact ⟨g, o, e, hg, hc⟩
theorem OwnT.nil (base : Nat) (w : World) : OwnT base w none 0 [] := World.ownsRow_nil w base _ 1
theorem OwnT.empty (w : World) (base : Nat) (hb : base ≤ w.heap.size) : OwnT base (w.alloc (.cells #[] 34)) (some ⟨w.heap.size, 0, none⟩) 0 [] :=
 World.ownsRow_lit w #[] 0 hb (by simp [maxLen]) rfl
theorem OwnT.rd {base cap : Nat} {w : World} {A : Option Addr} {bs : List Nat} (h : OwnT base w A cap bs) : RdT w A bs := by
 intro j u hj
 rcases h.2 with ⟨e, hn⟩ | ⟨g, c, cur, e, hg, hc, r⟩
 ·have : bs = [] := List.eq_nil_of_length_eq_zero hn
  subst this
  simp [ptrV] at hj
 ·injection e with e1 e2 e3
  subst e1
  have hl := (Array.getElem?_eq_some_iff.1 hc).1
  refine ⟨g, 0, rfl, hl, ?_⟩
  have := World.ownsRow.cells h (g := g) rfl j u hj
  rwa [Addr.add_lit] at this
theorem OwnT.zero {base cap : Nat} {w : World} {A : Option Addr} {bs : List Nat} (h : OwnT base w A cap bs) : ∀ a, A = some a → a = ⟨a.block, 0, none⟩ := by
 rintro a rfl
 rcases h.2 with ⟨e, hn⟩ | ⟨g, c, cur, e, r⟩
 ·cases e
 ·injection e with e1 e2 e3
  cases e1
  rfl
theorem OwnT.len_cap {base cap : Nat} {w : World} {A : Option Addr} {bs : List Nat} (h : OwnT base w A cap bs) : bs.length ≤ cap := by
 rcases h.2 with ⟨e, hn⟩ | ⟨g, c, cur, e, hg, hc, r1, r⟩
 ·omega
 ·injection e with e1 e2 e3
  subst e3
  exact r1
theorem OwnT.base_le {base cap : Nat} {w : World} {A : Option Addr} {bs : List Nat} (h : OwnT base w A cap bs) : ∀ k ∈ blk A, base ≤ k ∧ k < w.heap.size := by
 intro k hk
 cases A with
 | none => simp [blk] at hk
 | some a => simp only [blk, List.mem_singleton] at hk; subst hk; exact World.ownsRow.lt h a.block rfl
theorem OwnT.frame {base c : Nat} {w w' : World} {T : List Nat} {A : Option Addr} {bs : List Nat} (h : OwnT base w A c bs) (hf : Frame T w w') (hn : ∀ k ∈ blk A, k ∉ T) : OwnT base w' A c bs := by
 obtain ⟨h1, h2⟩ := h
 refine ⟨h1, ?_⟩
 rcases h2 with h2 | ⟨g, cp, cur, e, hg, hc, r⟩
 ·exact .inl h2
 ·refine .inr ⟨g, cp, cur, e, hg, (hf.block g (Array.getElem?_eq_some_iff.1 hc).1 (hn g ?_)).trans hc, r⟩
  simp only [Value.slice.injEq] at e
  rw [e.1]
  simp [blk]
theorem Tryz.underlyingT : Tryz.prog.underlying 71 = some (.slice 34) := by kernel_rfl
theorem Tryz.infoPtr : (Tryz.prog.info? 34).map (fun i => (i.zero, i.size, i.bytes)) = some (some (.pointer none), 1, 8) := by kernel_rfl
theorem Tryz.infoT : ∃ i, Tryz.prog.info? 34 = some i ∧ i.zero = some (.pointer none) ∧ i.size = 1 ∧ i.bytes = 8 := by
  have := Tryz.infoPtr
  cases hh : Tryz.prog.info? 34 with
  | none => rw [hh] at this; cases this
  | some i =>
    rw [hh] at this
    simp only [Option.map_some, Option.some.injEq, Prod.mk.injEq] at this
    exact ⟨i, rfl, this.1, this.2.1, this.2.2⟩
theorem wpList_append_ptrF {ops : Array Oper} {rest : List Oper} {o : Oper} {a : Act} {Q : Exit → Act → World → Prop} {w : World} (hgd : o.guard = none) (s x : Operand)
    (ho : o.op = .call { callee := .builtin .append, args := #[s, x], argTypes := #[71, 71] })
    (base : Nat) (A : Option Addr) (cap n : Nat) (ps : List Nat) (hs : a.eval s = .slice A n cap) (hn : ps.length = n) (hown : OwnT base w A cap ps)
    (B : Option Addr) (m c : Nat) (qs : List Nat) (hx : a.eval x = .slice B m c) (hm : qs.length = m) (hR : RdT w B qs)
    (hlen : n + m ≤ 1099511627776) (hbase : base ≤ w.heap.size)
    (h : ∀ A' cap' w', Hid (OwnT base w' A' cap' (ps ++ qs)) → Frame (blk A) w w' → (∀ k ∈ blk A', k ∈ blk A ∨ w.heap.size ≤ k) → wpList Tryz.prog ops Q rest (a.put o.dst (.slice A' (n + m) cap')) w') :
    wpList Tryz.prog ops Q (o :: rest) a w := by
  subst hn hm
  obtain ⟨i, hi, hz, hsz, hby⟩ := Tryz.infoT
  cases B with
  | none =>
    obtain rfl : qs = [] := by
      cases qs with
      | nil => rfl
      | cons y l =>
        obtain ⟨g, o, e, _⟩ := hR.at 0 (by simp)
        cases e
    refine vwpList_append_none_any hgd s x _ ho base _ i 1 Tryz.underlyingT hi c _ ps.length (ptrV ps) hs hown hx ?_
    have := h A cap w (by rw [List.append_nil]; exact hown) (Frame.refl _ _) (fun k hk => .inl hk)
    exact this
  | some ad =>
    refine wpList_append_own_at w hgd s x _ ho base _ i _ 1 8 Tryz.underlyingT hi hz hsz hby rfl (by decide) _ ps.length (ptrV ps) hs hown ad qs.length c (ptrV qs) hx (by rw [ptrV_len, Nat.mul_one]) ?_ ptrV_one (by simp only [maxLen]; omega) (by omega) hbase ?_
    · intro j u hj
      obtain ⟨g, o', e, _, hc⟩ := hR j u hj
      cases e
      rw [Addr.add_lit]
      exact hc
    · intro v' w' hown' hg _ hbl
      have hF := Frame.of_grown hg
      rw [← ptrV_append] at hown'
      have hl : (ps ++ qs).length = ps.length + qs.length := by simp
      have hB : ∀ A' n' cap', v' = .slice A' n' cap' → ∀ k ∈ blk A', k ∈ blk A ∨ w.heap.size ≤ k := by
        rintro A' n' cap' rfl k hk
        cases A' with
        | none => simp [blk] at hk
        | some a' =>
          simp only [blk, List.mem_singleton] at hk
          subst hk
          rcases hbl with hbl | hbl
          · left
            cases A with
            | none => simp [Value.ownBlock] at hbl
            | some a0 => simp [Value.ownBlock] at hbl; simp [blk, hbl]
          · right
            simp [Value.ownBlock] at hbl
            omega
      rcases hown'.2 with ⟨e, hn⟩ | ⟨g, cp, cur, rfl, r⟩
      · have := h none 0 w' (by show OwnT _ _ _ _ _; unfold OwnT; rw [hl, hn]; rw [e, hn] at hown'; exact hown') hF (fun k hk => by simp [blk] at hk)
        rw [hn] at this
        rw [e]
        exact this
      · exact h _ _ _ (by show OwnT _ _ _ _ _; unfold OwnT; rw [hl]; exact hown') hF (hB _ _ _ rfl)
theorem rdT_new (W : World) (b : Nat) : RdT (W.alloc (.cells #[.pointer (some ⟨b, 0, none⟩)] 34)) (some ⟨W.heap.size, 0, none⟩) [b] := by
 intro j u hj
 have a := At.new W #[.pointer (some ⟨b, 0, none⟩)] 34
 refine ⟨W.heap.size, 0, rfl, a.lt, ?_⟩
 have hl := (List.getElem?_eq_some_iff.1 hj).1
 simp [ptrV] at hl
 subst hl
 simp [ptrV] at hj
 subst hj
 exact a.cell rfl
theorem RdT.take {w : World} {A : Option Addr} {bs : List Nat} (h : RdT w A bs) (k : Nat) : RdT w A (bs.take k) := fun j u hj => h j u (by
 unfold ptrV at hj ⊢
 rw [List.map_take] at hj
 rw [List.getElem?_take_of_lt (by have := (List.getElem?_eq_some_iff.1 hj).1; rw [List.length_take] at this; omega)] at hj
 exact hj)
theorem RdT.drop {w : World} {g o : Nat} {bs : List Nat} (h : RdT w (some ⟨g, o, none⟩) bs) (k : Nat) : RdT w (some ⟨g, o + k, none⟩) (bs.drop k) := fun j u hj => by
 obtain ⟨g', o', e, hg, hc⟩ := h (k + j) u (by
  unfold ptrV at hj ⊢
  rw [List.map_drop, List.getElem?_drop] at hj
  exact hj)
 simp only [Option.some.injEq, Addr.mk.injEq, and_true] at e
 obtain ⟨rfl, rfl⟩ := e
 exact ⟨g, o + k, rfl, hg, by rw [Nat.add_assoc]; exact hc⟩
end Go.Proofs.YtlbnlmhcpephbaaGreatDoor

namespace Go.Proofs.YtlbnlmhcpephbaaGreatDoor
open Go.RowKit
theorem OwnT.mono {base base' cap : Nat} {w : World} {A : Option Addr} {bs : List Nat} (h : OwnT base w A cap bs) (hb : base' ≤ base) : OwnT base' w A cap bs := by
 obtain ⟨h1, h2⟩ := h
 refine ⟨h1, ?_⟩
 rcases h2 with h2 | ⟨g, c, cur, e, hg, r⟩
 ·exact .inl h2
 ·exact .inr ⟨g, c, cur, e, Nat.le_trans hb hg, r⟩
structure It where
 b : Nat
 S : List Nat
 l : List (Int × Int)
structure TreeJ (Sk : SkT) (w W : World) (its : List It) (Ar : Option Addr) (cr : Nat) (Aa : Option Addr) (ca : Nat) (all : List (Int × Int)) : Prop where
 sk : ∀ x ∈ its, Sk W x.b x.S x.l
 ws : ∀ x ∈ its, Within x.S w.heap.size W.heap.size
 apr : its.Pairwise fun x y => Apart x.S y.S
 row : OwnT w.heap.size W Ar cr (its.map (·.b))
 vals : OwnV w.heap.size W Aa ca all
 rr : ∀ x ∈ its, Apart x.S (blk Ar)
 ra : ∀ x ∈ its, Apart x.S (blk Aa)
 ar : ∀ k ∈ blk Ar, k ∉ blk Aa
 bl : Below w.heap.size w W
section
variable {c : Cfg} {Sk : SkT} {w W0 W W' : World} {its xs ys zs : List It} {x y : It} {S' : List Nat} {l' : List (Int × Int)} {Ar Ar' Aa Aa' : Option Addr} {cr cr' ca ca' : Nat} {all all' : List (Int × Int)}
theorem TreeJ.nil (w : World) : TreeJ Sk w w [] none 0 none 0 [] :=
 ⟨fun x hx => by simp at hx, fun x hx => by simp at hx, List.Pairwise.nil, OwnT.nil _ _, OwnV.nil _ _, fun x hx => by simp at hx, fun x hx => by simp at hx, fun k hk => by simp [blk] at hk, Below.refl _ _⟩
theorem TreeJ.below (K : KindC c Sk) (h : TreeJ Sk w W its Ar cr Aa ca all) (hb : Below W.heap.size W W') : TreeJ Sk w W' its Ar cr Aa ca all :=
 ⟨fun x hx => K.below (h.sk x hx) hb, fun x hx => (h.ws x hx).mono hb.size, h.apr, h.row.frame (T := []) (Frame.of_below hb) (fun _ _ => by simp), h.vals.below hb, h.rr, h.ra, h.ar, keep1 h.bl hb⟩
theorem TreeJ.addRow (K : KindC c Sk) (h0 : TreeJ Sk w W0 its Ar cr Aa ca all) (hb : Below W0.heap.size W0 W) (hs : Sk W x.b x.S x.l) (hw : Within x.S W0.heap.size W.heap.size)
  (ho : OwnT w.heap.size W' Ar' cr' (its.map (·.b) ++ [x.b])) (hF : Frame (blk Ar) W W') (hB : ∀ k ∈ blk Ar', k ∈ blk Ar ∨ W.heap.size ≤ k) : TreeJ Sk w W' (its ++ [x]) Ar' cr' Aa ca all := by
 have h := h0.below K hb
 have hz := hb.size
 have xr : Apart x.S (blk Ar) := fun k hk hm => by have := (hw k hk).1; have := (h0.row.base_le k hm).2; omega
 refine ⟨fun y hy => ?_, fun y hy => ?_, ?_, by rw [List.map_append]; exact ho, h.vals.frame hF fun k hk hm => h.ar k hm hk, fun y hy => ?_, fun y hy => ?_, fun k hk hm => ?_, hF.below h.bl h.bl.size fun k hk => (h.row.base_le k hk).1⟩
 ·rcases List.mem_append.1 hy with h1 | h1
  ·exact K.frame (h.sk y h1) hF (h.rr y h1)
  ·rw [List.mem_singleton] at h1; subst h1; exact K.frame hs hF xr
 ·rcases List.mem_append.1 hy with h1 | h1
  ·exact (h.ws y h1).mono hF.size
  ·rw [List.mem_singleton] at h1; subst h1; exact fun k hk => ⟨Nat.le_trans h0.bl.size (hw k hk).1, Nat.lt_of_lt_of_le (hw k hk).2 hF.size⟩
 ·refine List.pairwise_append.2 ⟨h.apr, List.pairwise_singleton _ _, fun y hy z hz => ?_⟩
  rw [List.mem_singleton] at hz
  subst hz
  exact fun k hk hm => by have := (h0.ws y hy k hk).2; have := (hw k hm).1; omega
 ·intro k hk hm
  rcases List.mem_append.1 hy with h1 | h1
  ·rcases hB k hm with h2 | h2
   ·exact h.rr y h1 k hk h2
   ·have := (h.ws y h1 k hk).2; omega
  ·rw [List.mem_singleton] at h1; subst h1
   rcases hB k hm with h2 | h2
   ·exact xr k hk h2
   ·have := (hw k hk).2; omega
 ·rcases List.mem_append.1 hy with h1 | h1
  ·exact h.ra y h1
  ·rw [List.mem_singleton] at h1; subst h1
   exact fun k hk hm => by have := (hw k hk).1; have := (h0.vals.blk_le k hm).2; omega
 ·rcases hB k hk with h2 | h2
  ·exact h.ar k h2 hm
  ·have := (h.vals.blk_le k hm).2; omega
theorem TreeJ.addVals (K : KindC c Sk) (h : TreeJ Sk w W its Ar cr Aa ca all) (ho : OwnV w.heap.size W' Aa' ca' all') (hF : Frame (blk Aa) W W') (hB : ∀ k ∈ blk Aa', k ∈ blk Aa ∨ W.heap.size ≤ k) : TreeJ Sk w W' its Ar cr Aa' ca' all' :=
 ⟨fun y hy => K.frame (h.sk y hy) hF (h.ra y hy), fun y hy => (h.ws y hy).mono hF.size, h.apr, h.row.frame hF h.ar, ho, h.rr, fun y hy k hk hm => by
  rcases hB k hm with h2 | h2
  ·exact h.ra y hy k hk h2
  ·have := (h.ws y hy k hk).2; omega, fun k hk hm => by
  rcases hB k hm with h2 | h2
  ·exact h.ar k hk h2
  ·have := (h.row.base_le k hk).2; omega, hF.below h.bl h.bl.size fun k hk => (h.vals.blk_le k hk).1⟩
theorem TreeJ.joined (K : KindC c Sk) (h : TreeJ Sk w W (xs ++ x :: ys) Ar cr Aa ca all) (hg : GrownS x.S S' W.heap.size) (hs : Sk W' x.b S' l') (hF : Frame x.S W W') : TreeJ Sk w W' (xs ++ ⟨x.b, S', l'⟩ :: ys) Ar cr Aa ca all := by
 have hx : x ∈ xs ++ x :: ys := by simp
 obtain ⟨p1, p2, p3⟩ := List.pairwise_append.1 h.apr
 obtain ⟨p4, p5⟩ := List.pairwise_cons.1 p2
 have ax : ∀ y ∈ xs, Apart y.S x.S := fun y hy => p3 y hy x (by simp)
 have ay : ∀ y ∈ ys, Apart y.S x.S := fun y hy => (p4 y hy).symm
 have grow : ∀ T : List Nat, Apart T x.S → (∀ k ∈ T, k < W.heap.size) → Apart T S' := fun T hT hlt k hk hm => by
  rcases hg k hm with h1 | h1
  ·exact hT k hk h1
  ·have := hlt k hk; omega
 refine ⟨fun y hy => ?_, fun y hy => ?_, ?_, ?_, h.vals.frame hF fun k hk hm => h.ra x hx k hm hk, fun y hy => ?_, fun y hy => ?_, h.ar, hF.below' h.bl h.bl.size (h.ws x hx)⟩
 ·rcases List.mem_append.1 hy with h1 | h1
  ·exact K.frame (h.sk y (by simp [h1])) hF (ax y h1)
  ·rcases List.mem_cons.1 h1 with rfl | h1
   ·exact hs
   ·exact K.frame (h.sk y (by simp [h1])) hF (ay y h1)
 ·rcases List.mem_append.1 hy with h1 | h1
  ·exact (h.ws y (by simp [h1])).mono hF.size
  ·rcases List.mem_cons.1 h1 with rfl | h1
   ·exact (h.ws x hx).grown hg h.bl.size (K.lt hs)
   ·exact (h.ws y (by simp [h1])).mono hF.size
 ·refine List.pairwise_append.2 ⟨p1, List.pairwise_cons.2 ⟨fun y hy => ?_, p5⟩, fun y hy z hz => ?_⟩
  ·exact (grow y.S (ay y hy) fun k hk => (h.ws y (by simp [hy]) k hk).2).symm
  ·rcases List.mem_cons.1 hz with rfl | hz
   ·exact grow y.S (ax y hy) fun k hk => (h.ws y (by simp [hy]) k hk).2
   ·exact p3 y hy z (by simp [hz])
 ·have e : (xs ++ (⟨x.b, S', l'⟩ : It) :: ys).map (·.b) = (xs ++ x :: ys).map (·.b) := by simp
  rw [e]
  exact h.row.frame hF fun k hk hm => h.rr x hx k hm hk
 ·rcases List.mem_append.1 hy with h1 | h1
  ·exact h.rr y (by simp [h1])
  ·rcases List.mem_cons.1 h1 with rfl | h1
   ·exact fun k hk hm => by
     rcases hg k hk with h2 | h2
     ·exact h.rr x hx k h2 hm
     ·have := (h.row.base_le k hm).2; omega
   ·exact h.rr y (by simp [h1])
 ·rcases List.mem_append.1 hy with h1 | h1
  ·exact h.ra y (by simp [h1])
  ·rcases List.mem_cons.1 h1 with rfl | h1
   ·exact fun k hk hm => by
     rcases hg k hk with h2 | h2
     ·exact h.ra x hx k h2 hm
     ·have := (h.vals.blk_le k hm).2; omega
   ·exact h.ra y (by simp [h1])
theorem TreeJ.newRow (K : KindC c Sk) (h : TreeJ Sk w W (xs ++ x :: y :: zs) Ar cr Aa ca all) (ho : OwnT W.heap.size W' Ar' cr' ((xs ++ x :: zs).map (·.b))) (hb : Below W.heap.size W W') : TreeJ Sk w W' (xs ++ x :: zs) Ar' cr' Aa ca all := by
 have hsub : (xs ++ x :: zs).Sublist (xs ++ x :: y :: zs) := (List.Sublist.refl xs).append ((List.sublist_cons_self y zs).cons_cons x)
 have hmem : ∀ z ∈ xs ++ x :: zs, z ∈ xs ++ x :: y :: zs := fun z hz => hsub.subset hz
 have h' := h.below K hb
 exact ⟨fun z hz => h'.sk z (hmem z hz), fun z hz => h'.ws z (hmem z hz), h.apr.sublist hsub, ho.mono h.bl.size, h'.vals, fun z hz k hk hm => by have := (ho.base_le k hm).1; have := (h.ws z (hmem z hz) k hk).2; omega, fun z hz => h'.ra z (hmem z hz), fun k hk hm => by have := (ho.base_le k hk).1; have := (h.vals.blk_le k hm).2; omega, h'.bl⟩
structure TreeI (Sk : SkT) (w W : World) (its : List It) (Ar : Option Addr) (cr : Nat) (Aa : Option Addr) (ca : Nat) (all : List (Int × Int)) (k n : Nat) : Prop where
 tj : TreeJ Sk w W its Ar cr Aa ca all
 len : its.length = k
 eq : all = its.flatMap (·.l)
 ok : okP all
 pos : ∀ v ∈ all, 0 < v.2 ∧ v.2 ≤ 20
 n : all.length = n
def TreeR (Sk : SkT) (w : World) (e : Ending) (w' : World) : Prop :=
 (Below w.heap.size w w' ∧ ∃ v0 v1, e = .returned (.tuple #[v0, v1, .bool false])) ∨
 ∃ b S A cap n l, e = .returned (.tuple #[.pointer (some ⟨b, 0, none⟩), .slice A n cap, .bool true]) ∧ MadeJ Sk w w' b S A cap n l
end
def lenV : Value → Nat
 | .slice _ n _ => n
 | _ => 0
theorem opwp_append_ptr {o : Oper} {a : Act} {K : Act → World → Prop} {Q : Exit → Act → World → Prop} {w : World} (s x : Operand)
  (ho : o.op = .call { callee := .builtin .append, args := #[s, x], argTypes := #[71, 71] })
  (base : Nat) (A : Option Addr) (cap n : Nat) (ls : List Nat) (hs : a.eval s = .slice A n cap) (hn : ls.length = n) (hown : OwnT base w A cap ls)
  (ad : Addr) (m c : Nat) (ks : List Nat) (hx : a.eval x = .slice (some ad) m c) (hm : ks.length = m) (hR : RdT w (some ad) ks)
  (hlen : n + m ≤ 1099511627775) (hbase : base ≤ w.heap.size) (d : Nat) (hd : o.dst = some d)
  (h : ∀ A' cap' w', Hid (OwnT base w' A' cap' (ls ++ ks)) → Hid (w.grownBy w' (Value.slice A n cap).ownBlock) → K ⟨a.tmps.setIfInBounds d (.slice A' (n + m) cap'), a.defers⟩ w') :
  Oper.wp Tryz.prog o a w K Q := by
 subst hn hm
 have hput : ∀ v, a.put o.dst v = ⟨a.tmps.setIfInBounds d v, a.defers⟩ := fun v => by rw [hd]; rfl
 simp only [← hput] at h
 obtain ⟨i, hi, hz, hsz, hby⟩ := Tryz.infoT
 have hnews : ∀ j u, (ptrV ks)[j]? = some u → w.cell? (ad.add j) = some u := by
  intro j u hj
  obtain ⟨g, o', e, _, hc⟩ := hR j u hj
  cases e
  rw [Addr.add_lit]
  exact hc
 obtain ⟨v', w', hr, hown', hg, _, hblk⟩ := run_append_own_at (P := Tryz.prog) w base 71 o.type _ i _ 1 8 Tryz.underlyingT hi hz hsz hby rfl (by decide) _ ls.length (ptrV ls) hown ad ks.length c (ptrV ks) (by rw [ptrV_len, Nat.mul_one]) hnews
  ptrV_one (by simp only [maxLen]; omega) (by omega) hbase
 unfold Oper.wp execOp
 simp only [ho, resolve, invoke, builtin, Sem.run_bind, Sem.run_pure, Result.andThen_ok, List.map_toArray, List.map_cons, List.map_nil, hs, hx, hr]
 have hl : (ls ++ ks).length = ls.length + ks.length := by simp
 rw [← ptrV_append] at hown'
 rcases hown'.2 with ⟨e, hn⟩ | ⟨g, cp, cur, rfl, r⟩
 ·have := h none 0 w' (by show OwnT _ _ _ _ _; unfold OwnT; rw [hl, hn]; rw [e, hn] at hown'; exact hown') hg
  rw [hn] at this
  rw [e]
  exact this
 ·exact h _ _ _ (by show OwnT _ _ _ _ _; unfold OwnT; rw [hl]; exact hown') hg
end Go.Proofs.YtlbnlmhcpephbaaGreatDoor

namespace Go.Proofs.YtlbnlmhcpephbaaGreatDoor
open Go.RowKit
theorem RdI.at {w : World} {A : Option Addr} {xs : List Int} (h : RdI w A xs) (j : Nat) (hj : j < xs.length) : ∃ g o, A = some ⟨g, o, none⟩ ∧ g < w.heap.size ∧ w.cell? ⟨g, o + j, none⟩ = some (.int .i64 (xs[j]'hj)) := by
 obtain ⟨g, o, e, hg, hc⟩ := h j (.int .i64 (xs[j]'hj)) (by rw [List.getElem?_map, List.getElem?_eq_getElem hj]; rfl)
 exact ⟨g, o, e, hg, hc⟩
def TwoC (g i : Nat) (x y : Nat) (W : World) : Prop := W.cell? ⟨g, i, none⟩ = some (.pointer (some ⟨x, 0, none⟩)) ∧ W.cell? ⟨g, i + 1, none⟩ = some (.pointer (some ⟨y, 0, none⟩))
theorem TwoC.cells {g i x y : Nat} {W : World} (h : TwoC g i x y W) : W.cell? ⟨g, i, none⟩ = some (.pointer (some ⟨x, 0, none⟩)) ∧ W.cell? ⟨g, i + 1, none⟩ = some (.pointer (some ⟨y, 0, none⟩)) := h
theorem split_two {α : Type} (its : List α) (k : Nat) (h : k + 1 < its.length) : ∃ xs x y zs, its = xs ++ x :: y :: zs ∧ xs.length = k := by
 refine ⟨its.take k, its[k]'(by omega), its[k + 1]'h, its.drop (k + 2), ?_, by rw [List.length_take]; omega⟩
 rw [← List.drop_eq_getElem_cons h, ← List.drop_eq_getElem_cons (by omega), List.take_append_drop]
set_option maxRecDepth 100000 in
set_option maxHeartbeats 4000000 in
theorem tree_any {c : Cfg} {Sk : SkT} (K : KindC c Sk) (Al : Option Addr) (len cl : Nat) (ls : List Lf) (Ap : Option Addr) (m cp : Nat) (ps : List Int) (w : World) (hT : TensAt w) (hl : ls.length = len) (hR : RdL w Al ls) (hp : PlayC c ls) (hm : ps.length = m) (hm' : m ≤ 9223372036854775807) (hP : RdI w Ap ps) (hpb : ∀ p ∈ ps, -9223372036854775808 ≤ p ∧ p ≤ 9223372036854775807) :
  Calls Tryz.prog 10 #[c.val, .slice Al len cl, .slice Ap m cp] w fun e w' => TreeR Sk w e w' := by
 have HK : Hid (KindC c Sk) := K
 have HR := Lib.hid hR
 have HLN := Lib.hid hl
 have HPL := Lib.hid hp
 have HM := Lib.hid hm
 have HPS := Lib.hid hP
 have HPB := Lib.hid hpb
 have HT := Lib.hid hT
 have h12 : len ≤ 12 := by have := hp.len; omega
 have HMADE := Lib.hid fun xA n xc xv xb W h1 h2 h3 h4 h5 h6 => made_any K xA n xc xv xb W h1 h2 h3 h4 h5 h6
 obtain ⟨cv, hcv⟩ : ∃ v, c.val = v := ⟨_, rfl⟩
 rw [hcv] at HMADE ⊢
 have hcr : ∃ kd pn pd sd mo dg li de fa wi wo : Int, cv = .agg #[.int .i64 kd, .int .u64 pn, .int .u64 pd, .int .i64 sd, .int .i64 mo, .int .i64 dg, .int .u64 li, .int .i64 de, .int .i64 fa, .int .i64 wi, .int .u64 wo] := ⟨_, _, _, _, _, _, _, _, _, _, _, hcv.symm⟩
 obtain ⟨kd, pn, pd, sd, mo, dg, li, de, fa, wi, wo, rfl⟩ := hcr
 clear hcv hR hl hp hm hP hpb hT K
 have ac := At.new w #[.int .i64 kd, .int .u64 pn, .int .u64 pd, .int .i64 sd, .int .i64 mo, .int .i64 dg, .int .u64 li, .int .i64 de, .int .i64 fa, .int .i64 wi, .int .u64 wo] 28
 have hba : Below w.heap.size w (w.alloc (.cells #[.int .i64 kd, .int .u64 pn, .int .u64 pd, .int .i64 sd, .int .i64 mo, .int .i64 dg, .int .u64 li, .int .i64 de, .int .i64 fa, .int .i64 wi, .int .u64 wo] 28)) := (Below.refl _ _).alloc (Nat.le_refl _) _
 go_enter Tryz.func10, Tryz.ntmps10
 go_wp2_with fail
 obtain ⟨W1, hW1⟩ : ∃ W, w.alloc (.cells #[.int .i64 kd, .int .u64 pn, .int .u64 pd, .int .i64 sd, .int .i64 mo, .int .i64 dg, .int .u64 li, .int .i64 de, .int .i64 fa, .int .i64 wi, .int .u64 wo] 28) = W := ⟨_, rfl⟩
 obtain ⟨cb, hcb⟩ : ∃ r, w.heap.size = r := ⟨_, rfl⟩
 rw [hW1] at hba ac
 rw [hcb] at ac
 simp only [hW1, hcb]
 have HB1 := Lib.hid hba
 have HAC := Lib.hid ac
 clear hW1 hcb hba ac
 have HJ0 : Hid (TreeI Sk W1 W1 [] none 0 none 0 [] 0 0) := ⟨TreeJ.nil _, rfl, rfl, fun x hx => by simp at hx, fun x hx => by simp at hx, rfl⟩
 have HFAIL : Hid (∀ W v0 v1, Below W1.heap.size W1 W → TreeR Sk w (.returned (.tuple #[v0, v1, .bool false])) W) := fun W v0 v1 hb => .inl ⟨keep1 HB1.out hb, v0, v1, rfl⟩
 go_loopw [9, 10, 20] (fun row all i wr => ∃ k : Nat, k ≤ len ∧ i = .int .i64 k ∧ ∃ its Ar cr Aa ca n al, row = .slice Ar k cr ∧ all = .slice Aa n ca ∧ n ≤ 30 * k ∧ Hid (TreeI Sk W1 wr its Ar cr Aa ca al k n)) (fun _ _ i _ => len - (intOf i).toNat)
 case atStart => exact ⟨0, by omega, rfl, [], none, 0, none, 0, 0, [], rfl, rfl, by omega, HJ0⟩
 case round =>
  obtain ⟨k, hk, rfl, its, Ar, cr, Aa, ca, n, al, rfl, rfl, hnk, H⟩ := hrel
  clear HJ0
  by_cases hlt : k < len
  ·have HKL : Hid (k < ls.length) := by have := HLN.out; show _ < _; omega
   obtain ⟨g, o, rfl, hg, c1, c2⟩ := (HR.out.below (keep1 HB1.out H.out.tj.bl)).at k HKL.out
   have HXM : Hid ((ls[k]'HKL.out) ∈ ls) := List.getElem_mem _
   have HXO := Lib.hid ((HR.out.below (keep1 HB1.out H.out.tj.bl)).2 _ HXM.out)
   have HXF := Lib.hid (HPL.out.few _ HXM.out)
   obtain ⟨⟨xA, xc, xv, xb⟩, hx⟩ : ∃ x, ls[k]'HKL.out = x := ⟨_, rfl⟩
   rw [hx] at c1 c2 HXO HXF
   dsimp only at c1 c2 HXF
   have HXR : Hid (RdP wr xA xv) := HXO.out.1
   have HXK : Hid (okP xv) := HXO.out.2.1
   obtain ⟨xn, hxn⟩ : ∃ n, xv.length = n := ⟨_, rfl⟩
   have HXN := Lib.hid hxn
   rw [hxn] at c1
   have hx30 : xn ≤ 30 := by have := HXF.out.1; rw [← HXN.out]; exact this
   have hbe : Below wr.heap.size wr (wr.alloc (.cells #[.slice xA xn xc, .bool xb] 70)) := (Below.refl _ _).alloc (Nat.le_refl _) _
   have aL := At.new wr #[.slice xA xn xc, .bool xb] 70
   have H1 : Hid (TreeJ Sk W1 (wr.alloc (.cells #[.slice xA xn xc, .bool xb] 70)) its Ar cr Aa ca al) := H.out.tj.below HK.out hbe
   have HXR1 := Lib.hid (HXR.out.below hbe)
   have a1 := (HAC.out.below H.out.tj.bl).below hbe
   have f1 := a1.el
   have l1 := a1.lt
   have g1 := aL.two
   have m1 := aL.lt
   clear hx hxn hbe HXO HXR a1 aL
   go_wp2_with fail
   obtain ⟨W2, hW2⟩ : ∃ W, wr.alloc (.cells #[.slice xA xn xc, .bool xb] 70) = W := ⟨_, rfl⟩
   obtain ⟨lb, hlb⟩ : ∃ r, wr.heap.size = r := ⟨_, rfl⟩
   rw [hW2] at H1 HXR1 f1 l1 g1 m1
   rw [hlb] at g1 m1
   simp only [hW2, hlb]
   clear hW2 hlb c1 c2 hg
   refine (HMADE.out xA xn xc xv xb W2 (HT.out.below (keep1 HB1.out H1.out.bl)) HXR1.out HXK.out HXN.out hx30 HXF.out.2).mono ?_
   rintro e w3 (⟨hb, v0, v1, rfl⟩ | ⟨b, S, A, cap, q, l, rfl, hq30, hJ⟩)
   ·have HF := Lib.hid (HFAIL.out w3 (.pointer none) (.slice none 0 0) (keep1 H1.out.bl hb))
    clear hb f1 l1 g1 m1
    go_wp2
    go_ret3
    exact HF.out
   ·have HJ := Lib.hid hJ
    clear hJ f1 l1 g1 m1
    have hbe : Below w3.heap.size w3 (w3.alloc (.cells #[.pointer (some ⟨b, 0, none⟩)] 34)) := (Below.refl _ _).alloc (Nat.le_refl _) _
    have HJ1 : Hid (MadeJ Sk W2 (w3.alloc (.cells #[.pointer (some ⟨b, 0, none⟩)] 34)) b S A cap q l) := HJ.out.below HK.out hbe
    have HPT := Lib.hid (rdT_new w3 b)
    have HB3 := Lib.hid HJ1.out.bl
    have HRW := Lib.hid ((H1.out.below HK.out HB3.out).row)
    have HBS : Hid ((its.map (·.b)).length = k) := by rw [List.length_map]; exact H.out.len
    have HZ : Hid (W1.heap.size ≤ (w3.alloc (.cells #[.pointer (some ⟨b, 0, none⟩)] 34)).heap.size) := Nat.le_trans H1.out.bl.size HB3.out.size
    clear hbe HJ
    have HSTEP : Hid (∀ (Ar' : Option Addr) (cr' : Nat) (w5 : World), Hid (OwnT W1.heap.size w5 Ar' cr' (its.map (·.b) ++ [b])) → Frame (blk Ar) (w3.alloc (.cells #[.pointer (some ⟨b, 0, none⟩)] 34)) w5 → (∀ k ∈ blk Ar', k ∈ blk Ar ∨ (w3.alloc (.cells #[.pointer (some ⟨b, 0, none⟩)] 34)).heap.size ≤ k) → TreeJ Sk W1 w5 (its ++ [⟨b, S, l⟩]) Ar' cr' Aa ca al ∧ RdP w5 A l) := fun Ar' cr' w5 HO5 hF5 hB5 =>
     ⟨H1.out.addRow HK.out (x := ⟨b, S, l⟩) HB3.out HJ1.out.sk HJ1.out.ws HO5.out hF5 hB5, hF5.rd HJ1.out.own.rd fun a ha hm => by
      have h1 := (HJ1.out.own.blk_le a.block (by rw [ha]; simp [blk])).1
      have h2 := (H1.out.row.base_le a.block hm).2
      omega⟩
    go_wp2_with (first | (at_builtin; refine wpList_append_ptrF rfl _ _ rfl W1.heap.size Ar cr k (its.map (·.b)) rfl HBS.out HRW.out (some ⟨w3.heap.size, 0, none⟩) 1 1 [b] rfl rfl HPT.out (by omega) HZ.out ?_; intro Ar' cr' w5 HO5 hF5 hB5; have H5 := Lib.hid (HSTEP.out Ar' cr' w5 HO5 hF5 hB5); clear HO5 hF5 hB5) | (at_builtin; refine wpList_append_valsF rfl _ _ rfl W1.heap.size Aa ca n al rfl H.out.n H5.out.1.vals A q cap l rfl HJ1.out.len H5.out.2 (by omega) H5.out.1.bl.size ?_; intro Aa' ca' w6 HO6 hF6 hB6) | fail)
    have H6 : Hid (TreeI Sk W1 w6 (its ++ [⟨b, S, l⟩]) Ar' cr' Aa' ca' (al ++ l) (k + 1) (n + q)) :=
     ⟨H5.out.1.addVals HK.out HO6.out hF6 hB6, by rw [List.length_append, H.out.len]; rfl, by rw [List.flatMap_append, ← H.out.eq]; simp, fun v hv => by
      rcases List.mem_append.1 hv with h | h
      ·exact H.out.ok v h
      ·exact HJ1.out.lok.ok v h, fun v hv => by
      rcases List.mem_append.1 hv with h | h
      ·exact H.out.pos v h
      ·exact HJ1.out.lok.pos v h, by rw [List.length_append, H.out.n, HJ1.out.len]⟩
    clear HO6 hF6 hB6 H5 HJ1 H1 H HSTEP HPT HRW HZ
    go_wp2
    go_roundw
    case rel => exact ⟨k + 1, by omega, by simp, _, Ar', cr', Aa', ca', n + q, _, rfl, rfl, by omega, H6⟩
    case measure => simp [intOf]; omega
  ·obtain rfl : k = len := by omega
   have HALL : Hid (LOk al) := ⟨H.out.ok, H.out.pos, by have := H.out.n; omega⟩
   have HNN := Lib.hid H.out.n
   have H0 : Hid (∃ its', TreeJ Sk W1 wr its' Ar cr Aa ca al ∧ its'.length = k ∧ its'.flatMap (·.l) = al) := ⟨its, H.out.tj, H.out.len, H.out.eq.symm⟩
   clear hlt H
   obtain ⟨wo', hwo⟩ : ∃ wo' : World, wo' = wr := ⟨_, rfl⟩
   go_wp2
   go_loopw [9, 16] (fun row kk wi => ∃ n j : Nat, ∃ Ar cr, row = .slice Ar n cr ∧ kk = .int .i64 j ∧ n + j ≤ 12 ∧ Hid (∃ its', TreeJ Sk W1 wi its' Ar cr Aa ca al ∧ its'.length = n ∧ its'.flatMap (·.l) = al)) (fun row _ _ => lenV row)
   case atStart => exact ⟨k, 0, Ar, cr, rfl, rfl, by omega, H0⟩
   case round =>
    obtain ⟨nn, j, Ar2, cr2, rfl, rfl, hnj, H⟩ := hrel
    clear H0
    by_cases hgt : 1 < nn
    ·have hd : decide ((1 : Int) < nn) = true := decide_eq_true (by omega)
     have hd' : decide (1 < nn) = true := decide_eq_true hgt
     have HGT := Lib.hid hgt
     have hn1 : IntKind.i64.wrap ((nn : Int) - 1) = ((nn - 1 : Nat) : Int) := by simp only [IntKind.wrap_i64]; omega
     have hn2 : IntKind.u64.wrap ((nn - 1 : Nat) : Int) = ((nn - 1 : Nat) : Int) := by simp only [IntKind.wrap_u64]; omega
     go_upto_if 49 with fail
     go_cut [17] (fun v wc => ∃ p : Nat, p + 1 < nn ∧ v = .int .i64 (p : Int) ∧ wr = wc)
     case first =>
      by_cases hjm : j < m
      ·have HPJ : Hid (j < ps.length) := by have := HM.out; show _ < _; omega
       have HBW : Hid (Below W1.heap.size W1 wr) := by obtain ⟨its', h, _⟩ := H.out; exact h.bl
       obtain ⟨g, o, rfl, hg, c1⟩ := (HPS.out.below (keep1 HB1.out HBW.out)).at j HPJ.out
       have HPX := Lib.hid (HPB.out _ (List.getElem_mem HPJ.out))
       obtain ⟨x, hx⟩ : ∃ x, ps[j]'HPJ.out = x := ⟨_, rfl⟩
       rw [hx] at c1 HPX
       have hr0 : 0 ≤ IntKind.u64.wrap x ∧ IntKind.u64.wrap x < 18446744073709551616 := by simp only [IntKind.wrap_u64]; omega
       obtain ⟨y, hy⟩ : ∃ y, IntKind.u64.wrap x = y := ⟨_, rfl⟩
       rw [hy] at hr0
       have hjm' : (j : Int) < m := by omega
       clear hx
       have hq : ∃ q : Nat, q + 1 < nn ∧ wrap64 (y % ((nn - 1 : Nat) : Int)) = (q : Int) := by
        have h1 := Int.emod_nonneg y (show ((nn - 1 : Nat) : Int) ≠ 0 by omega)
        have h2 := Int.emod_lt_of_pos y (show 0 < ((nn - 1 : Nat) : Int) by omega)
        obtain ⟨z, hz⟩ : ∃ z, y % ((nn - 1 : Nat) : Int) = z := ⟨_, rfl⟩
        rw [hz] at h1 h2 ⊢
        refine ⟨z.toNat, by omega, ?_⟩
        unfold wrap64
        omega
       obtain ⟨q, hq1, hq2⟩ := hq
       have HQ1 := Lib.hid hq1
       clear hq1
       go_wp2
       go_meet
       case rel => exact ⟨q, HQ1.out, by rw [hq2], rfl⟩
      ·have hjm' : ¬ (j : Int) < m := by omega
       go_wp2
       go_meet
       case rel => exact ⟨0, HGT.out, rfl, rfl⟩
     case rest =>
      obtain ⟨p, hp, rfl, rfl⟩ := hcut
      clear hn1 hn2 hd hd' hgt
      obtain ⟨its', hJ, hlen, hfl⟩ := H.out
      obtain ⟨xs, x, y, zs, rfl, hxs⟩ := split_two its' p (by omega)
      have hrd := hJ.row.rd
      have hbl : ((xs ++ x :: y :: zs).map (·.b)).length = nn := by rw [List.length_map]; exact hlen
      obtain ⟨g2, o2, hA2, _, hc1⟩ := hrd.at p (by omega)
      obtain ⟨g3, o3, hA3, _, hc2⟩ := hrd.at (p + 1) (by omega)
      have hz := hJ.row.zero _ hA2
      rw [hA2] at hA3
      simp only [Option.some.injEq, Addr.mk.injEq, and_true, true_and] at hA3 hz
      obtain ⟨rfl, rfl⟩ := hA3
      subst hz
      subst hA2
      have e1 : ((xs ++ x :: y :: zs).map (·.b))[p]'(by omega) = x.b := by simp [List.getElem_append_right, hxs]
      have e2 : ((xs ++ x :: y :: zs).map (·.b))[p + 1]'(by omega) = y.b := by simp [List.getElem_append_right, hxs]
      rw [e1, Nat.zero_add] at hc1
      rw [e2, Nat.zero_add] at hc2
      have hcap := hJ.row.len_cap
      rw [hbl] at hcap
      have HJ := Lib.hid hJ
      have HLX := Lib.hid (And.intro hxs hlen)
      have HFL := Lib.hid hfl
      have hTC : TwoC g2 p x.b y.b wr.drew := ⟨hc1, hc2⟩
      have HLOX : Hid (LOk (x.l ++ y.l)) := by
       have hsub : ∀ v ∈ x.l ++ y.l, v ∈ al := fun v hv => by
        rw [← hfl]
        simp only [List.flatMap_append, List.flatMap_cons, List.mem_append] at hv ⊢
        rcases hv with h | h
        ·exact .inr (.inl h)
        ·exact .inr (.inr (.inl h))
       refine ⟨fun v hv => HALL.out.ok v (hsub v hv), fun v hv => HALL.out.pos v (hsub v hv), ?_⟩
       have h1 := HALL.out.len
       rw [← hfl] at h1
       simp only [List.flatMap_append, List.flatMap_cons, List.length_append] at h1 ⊢
       omega
      have HJD := Lib.hid (hJ.below HK.out (Below.refl _ _).drew)
      have HAPT : Hid (Apart x.S y.S) := by
       obtain ⟨_, p2, _⟩ := List.pairwise_append.1 hJ.apr
       exact (List.pairwise_cons.1 p2).1 y (by simp)
      have HJN := Lib.hid (HK.out.join x.b y.b x.S y.S x.l y.l _ (HJD.out.sk x (by simp)) (HJD.out.sk y (by simp)) HAPT.out HLOX.out)
      have HGX : Hid (g2 ∉ x.S) := fun hm => hJ.rr x (by simp) g2 hm (by simp [blk])
      clear hJ hlen hfl hxs hrd hbl hc1 hc2 e1 e2 H HGT
      haveI hne : Nonempty (Held (TwoC g2 p x.b y.b)) := ⟨⟨wr.drew, hTC⟩⟩
      have hfar1 := fun v : Held (TwoC g2 p x.b y.b) => v.held.cells
      have hp0 : (0 : Int) ≤ p := by omega
      have hp1 : (p : Int) < nn := by omega
      have hp2 : IntKind.i64.wrap ((p : Int) + 1) = ((p + 1 : Nat) : Int) := by simp only [IntKind.wrap_i64]; omega
      have hp3 : (0 : Int) ≤ ((p + 1 : Nat) : Int) := by omega
      have hp4 : ((p + 1 : Nat) : Int) < nn := by omega
      go_wp2_with fail
      refine wp_region_noPanic ?_
      refine wp_region_held_drew (S := HeldS (TwoC g2 p x.b y.b)) (by kernel_rfl) (HeldS.mk' hTC) (fun hHeld => ?_)
      refine runH [9] 2 hHeld ?_
      simp only [runL, runN, runOps_true, runOps_false, runOps_nil]
      repeat go_big_quiet_step (fail)
      refine wpQuiet_nil ?_
      clear hfar1
      refine readyH 9 fun K hK => ?_
      go_simp
      go_wp2_with (go_at_call 28; refine HJN.out.mono ?_; rintro e w4 ⟨f, rfl, hcase⟩)
      refine hK.out _ _ ?_ (fun hHeld => ?_)
      clear hK K
      ·have hF : Frame x.S wr.drew w4 := by
        rcases hcase with ⟨_, S', _, _, hF⟩ | ⟨_, hF⟩ <;> exact hF
       have hlt : g2 < wr.heap.size := (HJD.out.row.base_le g2 (by simp [blk])).2
       exact HeldS.mk' ⟨(World.cell?_of_block (w := wr.drew) (hF.block g2 hlt HGX.out)).trans hTC.1, (World.cell?_of_block (w := wr.drew) (hF.block g2 hlt HGX.out)).trans hTC.2⟩
      rcases hcase with ⟨rfl, S', hg, hs, hF⟩ | ⟨hf, hF⟩
      rotate_left
      ·have hfn : (f != 0) = true := bne_iff_ne.2 hf
       have HF : Hid (TreeR Sk w (.returned (.tuple #[.pointer none, .slice none 0 0, .bool false])) w4) := HFAIL.out _ _ _ (hF.below' HJD.out.bl HJD.out.bl.size (HJD.out.ws x (by simp)))
       refine runH [0, 10, 1] 0 hHeld ?_
       simp only [runL, runN, runOps_true, runOps_false, runOps_nil]
       repeat go_big_quiet_step (fail)
       refine wpQuiet_nil ?_
       refine wpAnyH_done (by kernel_rfl) ?_ _
       refine NoPanic.normal ?_
       clear hne hHeld hF hf
       go_wp2
       go_ret3
       exact HF.out
      refine runH [0, 10, 1] 0 hHeld ?_
      simp only [runL, runN, runOps_true, runOps_false, runOps_nil]
      repeat go_big_quiet_step (fail)
      refine wpQuiet_nil ?_
      refine wpAnyH_done (by kernel_rfl) ?_ _
      refine NoPanic.normal ?_
      have HJ4 : Hid (TreeJ Sk W1 w4 (xs ++ ⟨x.b, S', x.l ++ y.l⟩ :: y :: zs) (some ⟨g2, 0, none⟩) cr2 Aa ca al) := HJD.out.joined HK.out hg hs hF
      clear hne hHeld hF hg hs hTC HJN HJD HAPT HLOX HGX HJ hp0 hp1 hp2 hp3 hp4
      have hp5 : IntKind.i64.wrap ((p : Int) + 1) = ((p + 1 : Nat) : Int) := by simp only [IntKind.wrap_i64]; omega
      have hp6 : IntKind.i64.wrap ((p : Int) + 2) = ((p + 2 : Nat) : Int) := by simp only [IntKind.wrap_i64]; omega
      have k1 : (0 : Int) ≤ ((p + 1 : Nat) : Int) := by omega
      have k2 : ((p + 1 : Nat) : Int) ≤ cr2 := by omega
      have k3 : (0 : Int) ≤ ((p + 2 : Nat) : Int) := by omega
      have k4 : ((p + 2 : Nat) : Int) ≤ nn := by omega
      have k5 : (nn : Int) ≤ cr2 := by omega
      have HCAP := Lib.hid hcap
      go_wp2_with fail
      have HJ5 := Lib.hid (HJ4.out.below HK.out (Below.refl _ _).drew)
      obtain ⟨W5, hW5⟩ : ∃ W, w4.drew = W := ⟨_, rfl⟩
      rw [hW5] at HJ5
      haveI hne : Nonempty (Held fun _ => True) := ⟨⟨W5, trivial⟩⟩
      refine wp_region_noPanic ?_
      refine wp_region_held_drew (S := HeldS fun _ => True) (by kernel_rfl) (HeldS.mk' trivial) (fun hHeld => ?_)
      rw [hW5] at hHeld ⊢
      clear hW5 HJ4
      refine runH [0, 1, 4, 1, 4] 4 hHeld ?_
      simp only [runL, runN, runOps_true, runOps_false, runOps_nil]
      repeat go_big_quiet_step (fail)
      refine wpQuiet_nil ?_
      obtain ⟨o4, ho4, hR4⟩ : ∃ o4, (if cr2 = p + 2 then some (⟨g2, 0, none⟩ : Addr) else some ⟨g2, p + 2, none⟩) = some ⟨g2, o4, none⟩ ∧ RdT W5 (some ⟨g2, o4, none⟩) ((xs ++ (⟨x.b, S', x.l ++ y.l⟩ : It) :: y :: zs).map (·.b) |>.drop (p + 2)) := by
       by_cases hc : cr2 = p + 2
       ·rw [if_pos hc]
        have hd : ((xs ++ (⟨x.b, S', x.l ++ y.l⟩ : It) :: y :: zs).map (·.b)).drop (p + 2) = [] := List.drop_of_length_le (by have h1 := HLX.out.2; have := HCAP.out; simp only [List.length_map, List.length_append, List.length_cons] at h1 ⊢; omega)
        rw [hd]
        exact ⟨_, rfl, fun j u hj => by simp [ptrV] at hj⟩
       ·rw [if_neg hc]
        have := HJ5.out.row.rd.drop (p + 2)
        rw [Nat.zero_add] at this
        exact ⟨_, rfl, this⟩
      have HR4 := Lib.hid hR4
      have HR3 := Lib.hid (HJ5.out.row.rd.take (p + 1))
      clear hR4
      rw [ho4]
      have HOE := Lib.hid (OwnT.empty W5 W5.heap.size (Nat.le_refl _))
      have hbE : Below W5.heap.size W5 (W5.alloc (.cells #[] 34)) := (Below.refl _ _).alloc (Nat.le_refl _) _
      have HB6 := Lib.hid hbE
      have HZ6 : Hid ((W5.alloc (.cells #[] 34)).heap.size = W5.heap.size + 1) := by show _ = _; simp
      clear hbE ho4
      refine readyH 0 fun K hK => ?_
      go_simp
      go_wp2
      obtain ⟨W6, hW6⟩ : ∃ W, W5.alloc (.cells #[] 34) = W := ⟨_, rfl⟩
      obtain ⟨eB, heB⟩ : ∃ r, W5.heap.size = r := ⟨_, rfl⟩
      have HEB : Hid (W5.heap.size = eB) := heB
      rw [hW6, heB] at HOE HZ6
      rw [hW6] at HB6
      simp only [hW6, heB]
      clear hW6 heB
      refine hK.out _ _ (HeldS.mk' trivial) (fun hHeld => ?_)
      clear hK K
      refine readyH 5 fun K hK => ?_
      refine ite_of rfl ?_
      refine opwp_append_ptr _ _ rfl eB (some ⟨eB, 0, none⟩) 0 0 [] rfl rfl HOE.out ⟨g2, 0, none⟩ (p + 1) cr2 (((xs ++ (⟨x.b, S', x.l ++ y.l⟩ : It) :: y :: zs).map (·.b)).take (p + 1)) rfl (by have h1 := HLX.out.2; simp only [List.length_take, List.length_map, List.length_append, List.length_cons] at h1 ⊢; omega) (HR3.out.below HB6.out) (by omega) (by rw [HZ6.out]; omega) 77 rfl ?_
      intro A7 c7 W7 HO7 HG7
      simp only [List.setIfInBounds_toArray, List.set_cons_zero, List.set_cons_succ]
      have HB7 : Hid (Below W5.heap.size W5 W7) := HB6.out.grown HG7.out (by rw [HZ6.out, HEB.out]; omega) (fun k hk => by simp [Value.ownBlock] at hk; rw [HEB.out]; omega)
      refine hK.out _ _ (HeldS.mk' trivial) (fun hHeld => ?_)
      clear hK K
      refine readyH 10 fun K hK => ?_
      refine ite_of rfl ?_
      refine opwp_append_ptr _ _ rfl eB A7 c7 (0 + (p + 1)) ([] ++ ((xs ++ (⟨x.b, S', x.l ++ y.l⟩ : It) :: y :: zs).map (·.b)).take (p + 1)) rfl (by have h1 := HLX.out.2; simp only [List.nil_append, List.length_take, List.length_map, List.length_append, List.length_cons] at h1 ⊢; omega) HO7.out ⟨g2, o4, none⟩ (nn - (p + 2)) (cr2 - (p + 2)) (((xs ++ (⟨x.b, S', x.l ++ y.l⟩ : It) :: y :: zs).map (·.b)).drop (p + 2)) rfl (by have h1 := HLX.out.2; simp only [List.length_drop, List.length_map, List.length_append, List.length_cons] at h1 ⊢; omega) (HR4.out.below HB7.out) (by omega) (by rw [← HEB.out]; exact HB7.out.size) 82 rfl ?_
      intro A8 c8 W8 HO8 HG8
      simp only [List.setIfInBounds_toArray, List.set_cons_zero, List.set_cons_succ]
      have HB8 : Hid (Below W5.heap.size W5 W8) := HB7.out.grown HG8.out HB7.out.size (fun k hk => by
       cases A7 with
       | none => simp [Value.ownBlock] at hk
       | some a => simp only [Value.ownBlock, Option.some.injEq] at hk; have := (HO7.out.base_le a.block (by simp [blk])).1; rw [HEB.out]; omega)
      refine hK.out _ _ (HeldS.mk' trivial) (fun hHeld => ?_)
      clear hK K
      refine runH [0, 11, 1] 0 hHeld ?_
      simp only [runL, runN, runOps_true, runOps_false, runOps_nil]
      repeat go_big_quiet_step (fail)
      refine wpQuiet_nil ?_
      refine wpAnyH_done (by kernel_rfl) ?_ _
      refine NoPanic.normal ?_
      have HROW : Hid (([] ++ ((xs ++ (⟨x.b, S', x.l ++ y.l⟩ : It) :: y :: zs).map (·.b)).take (p + 1)) ++ ((xs ++ (⟨x.b, S', x.l ++ y.l⟩ : It) :: y :: zs).map (·.b)).drop (p + 2) = (xs ++ (⟨x.b, S', x.l ++ y.l⟩ : It) :: zs).map (·.b)) := by
       have hx := HLX.out.1
       show _ = _
       have e1 : (xs ++ (⟨x.b, S', x.l ++ y.l⟩ : It) :: y :: zs).take (p + 1) = xs ++ [⟨x.b, S', x.l ++ y.l⟩] := by rw [← hx, List.take_append, List.take_of_length_le (by omega)]; simp
       have e2 : (xs ++ (⟨x.b, S', x.l ++ y.l⟩ : It) :: y :: zs).drop (p + 2) = zs := by rw [← hx]; simp [List.drop_append]
       rw [List.nil_append, ← List.map_take, ← List.map_drop, e1, e2]
       simp
      have HJ8 : Hid (∃ its', TreeJ Sk W1 W8 its' A8 c8 Aa ca al ∧ its'.length = 0 + (p + 1) + (nn - (p + 2)) ∧ its'.flatMap (·.l) = al) := by
       have ho := HO8.out
       rw [HROW.out, ← HEB.out] at ho
       refine ⟨_, HJ5.out.newRow HK.out ho HB8.out, ?_, ?_⟩
       ·have h1 := HLX.out.1
        have h2 := HLX.out.2
        simp only [List.length_append, List.length_cons] at h2 ⊢
        omega
       ·have h1 := HFL.out
        simp only [List.flatMap_append, List.flatMap_cons, List.append_assoc] at h1 ⊢
        exact h1
      clear hne hHeld HO7 HG7 HB6 HB7 HO8 HG8 HB8 HOE HZ6 HEB HR3 HR4 HJ5 HROW
      go_wp2
      go_roundw
      case rel => exact ⟨0 + (p + 1) + (nn - (p + 2)), j + 1, A8, c8, rfl, by simp, by omega, HJ8⟩
      case measure => simp [lenV]; omega
    ·have hd : decide ((1 : Int) < nn) = false := decide_eq_false (by omega)
     have hd' : decide (1 < nn) = false := decide_eq_false hgt
     by_cases hn0 : nn = 0
     ·subst hn0
      have HF : Hid (TreeR Sk w (.returned (.tuple #[.pointer none, .slice none 0 0, .bool false])) wr) := by
       obtain ⟨its', h, _⟩ := H.out
       exact HFAIL.out _ _ _ h.bl
      clear hgt
      go_wp2
      go_ret3
      exact HF.out
     ·obtain rfl : nn = 1 := by omega
      obtain ⟨its', hJ, hlen, hfl⟩ := H.out
      obtain ⟨x, rfl⟩ : ∃ x, its' = [x] := by
       match its', hlen with
       | [x], _ => exact ⟨x, rfl⟩
      obtain ⟨g2, o2, hA2, hg2, hc1⟩ := hJ.row.rd.at 0 (by simp)
      subst hA2
      have hal : al = x.l := by rw [← hfl]; simp
      have HF : Hid (TreeR Sk w (.returned (.tuple #[.pointer (some ⟨x.b, 0, none⟩), .slice Aa n ca, .bool true])) wr) := .inr ⟨x.b, x.S, Aa, ca, n, al, rfl, ⟨by rw [hal]; exact hJ.sk x (by simp), fun k hk => ⟨Nat.le_trans HB1.out.size (hJ.ws x (by simp) k hk).1, (hJ.ws x (by simp) k hk).2⟩, hJ.vals.mono HB1.out.size, hJ.ra x (by simp), HALL.out, HNN.out, keep1 HB1.out hJ.bl, HK.out.lt (hJ.sk x (by simp)) _ (HK.out.mem (hJ.sk x (by simp)))⟩⟩
      simp only [List.map_cons, List.map_nil, List.getElem_cons_zero, Nat.add_zero] at hc1
      clear hgt hn0 hJ hlen hfl hal H
      go_wp2
      go_ret3
      exact HF.out
end Go.Proofs.YtlbnlmhcpephbaaGreatDoor
