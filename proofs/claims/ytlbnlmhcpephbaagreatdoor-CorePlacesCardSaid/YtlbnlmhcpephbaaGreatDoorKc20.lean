/- Texts of this claim, joined, indents halved: GrA, TopArgs, Kind, SuiteG, SuiteH. -/
import Derived.Test.YtlbnlmhcpephbaaGreatDoorProg
import Derived.Lib.SmallJoins
import Derived.Test.YtlbnlmhcpephbaaGreatDoorKc19
namespace Go.Proofs.YtlbnlmhcpephbaaGreatDoor
open Go.RowKit Tt
def GrLd (u v : Int) (row : List Tu) (waits : List Int) (w : World) (e : Ending) (w' : World) : Prop :=
 Below w.heap.size w w' ∧ ((∃ b R W rc wc, e = .returned (.tuple #[.pointer (some ⟨b, 0, none⟩), .int .i64 0]) ∧ w.heap.size ≤ b ∧ (∀ k ∈ blk R ++ blk W, w.heap.size ≤ k) ∧ GrAt w' b u v row waits R W rc wc (sg row + waits.length)) ∨ ∃ f : Int, f ≠ 0 ∧ e = .returned (.tuple #[.pointer none, .int .i64 f]))
theorem ownW_mono {base base' cap : Nat} {w : World} {A : Option Addr} {xs : List Int} (h : OwnW base w A cap xs) (hb : base' ≤ base) : OwnW base' w A cap xs := by
 obtain ⟨h1, h2⟩ := h
 refine ⟨h1, ?_⟩
 rcases h2 with h2 | ⟨g, c, cur, e, hg, r⟩
 ·exact .inl h2
 ·exact .inr ⟨g, c, cur, e, Nat.le_trans hb hg, r⟩
set_option maxRecDepth 100000 in
set_option maxHeartbeats 4000000 in
theorem gload_any (u v : Int) (row : List Tu) (waits : List Int) (A B : Option Addr) (c d : Nat) (w : World) (hA : OwnT 0 w A c row) (hB : OwnW 0 w B d waits) (ho : gwOk u v = true) (hok : okT row) (hsg : 0 ≤ sg row ∧ sg row ≤ 1000000) (hl : row.length ≤ 1000000) (hw : waits.length ≤ 15) :
    Calls Tryz.prog 91 #[.agg #[.int .u64 u, .int .u64 v], .slice A row.length c, .slice B waits.length d] w fun e w' => GrLd u v row waits w e w' := by
  have hbd := gwOk_bd ho
  have HNEW := Lib.hid fun W => gwnew_any u v W (by omega)
  have HA := Lib.hid hA
  have HB := Lib.hid hB
  have HUV := Lib.hid hbd
  have HO := Lib.hid ho
  have HTO := Lib.hid fun W (hb : Below w.heap.size w W) => total_any A c row.length row W rfl (hA.rd.below hb) hok (by omega)
  have HGD := Lib.hid fun W (hb : Below w.heap.size w W) => tgood_any A c row.length row W rfl (hA.rd.below hb) hok (by omega)
  have HCT := Lib.hid fun W (hb : Below w.heap.size w W) => Tt.clone_any 0 A c row W (hA.below hb) (by omega)
  have HCW := Lib.hid fun W (hb : Below w.heap.size w W) => cloneW_any 0 B d waits W (hB.below hb) (by omega)
  have HR := Lib.hid hA.rd
  obtain ⟨s, hsv⟩ : ∃ s, sg row = s := ⟨_, rfl⟩
  have HSV := Lib.hid hsv
  have ht1 : totT row = s := by unfold totT; rw [hsv, if_pos (by omega)]
  have ht2 : totOk row = true := by unfold totOk; rw [hsv]; exact decide_eq_true (by omega)
  rw [ht1, ht2] at HTO
  rw [hsv] at hsg
  have HSG := Lib.hid hsg
  obtain ⟨n0, hn0⟩ : ∃ n0, waits.length = n0 := ⟨_, rfl⟩
  obtain ⟨n1, hn1⟩ : ∃ n1, row.length = n1 := ⟨_, rfl⟩
  have HN := Lib.hid (And.intro hn0 hn1)
  rw [hn1] at HTO HGD HCT hl ⊢
  rw [hn0] at HCW hw ⊢
  obtain ⟨p1, p2⟩ := plus2_yes (show s + (n0 : Int) ≤ 9223372036854775807 by omega)
  have hc0 : IntKind.u64.wrap (n0 : Int) = n0 := by simp only [IntKind.wrap_u64]; omega
  have hba : Below w.heap.size w (w.alloc (.cells #[.int .u64 u, .int .u64 v] 25)) := (Below.refl _ _).alloc (Nat.le_refl _) _
  have ap := At.new w #[.int .u64 u, .int .u64 v] 25
  have f0 := ap.two
  have l0 := ap.lt
  clear hA hB ho hok hbd ht1 ht2 hsv hn0 hn1
  go_enter Tryz.func91, Tryz.ntmps91
  go_wp2_with fail
  obtain ⟨W1, hW1⟩ : ∃ W, w.alloc (.cells #[.int .u64 u, .int .u64 v] 25) = W := ⟨_, rfl⟩
  obtain ⟨pb, hpb⟩ : ∃ r, w.heap.size = r := ⟨_, rfl⟩
  have HPB := Lib.hid hpb
  rw [hW1] at hba ap
  rw [hpb] at ap
  simp only [hW1, hpb]
  have HBA := Lib.hid hba
  have HAP := Lib.hid ap
  clear hW1 hpb hba ap f0 l0
  refine (HNEW.out W1).mono ?_
  rintro e w2 ⟨hb, ⟨_, b, hbge, rfl, hat⟩ | ⟨hno, _⟩⟩
  rotate_left
  · rw [HO.out] at hno; cases hno
  have HB2 := Lib.hid (keep1 HBA.out hb)
  have HAT2 := Lib.hid hat
  have HAP2 := Lib.hid (HAP.out.below hb)
  have HGE : Hid (w.heap.size ≤ b) := Nat.le_trans HBA.out.size hbge
  clear hb hbge hat HNEW HAP
  go_wp2_with (go_at_call 113; refine (HTO.out w2 HB2.out).mono ?_)
  rintro e w3 ⟨rfl, hb⟩
  have HB3 := Lib.hid (keep1 HB2.out hb)
  have HAT3 := Lib.hid (HAT2.out.below hb)
  have HAP3 := Lib.hid (HAP2.out.below hb)
  obtain ⟨h3, hh3⟩ : ∃ h3, w3.heap.size = h3 := ⟨_, rfl⟩
  have hbV : Below w3.heap.size w3 (w3.alloc (.cells #[.int .u64 s, .int .u64 (n0 : Int)] 23)) := (Below.refl _ _).alloc (Nat.le_refl _) _
  have aV := At.new' w3 #[.int .u64 s, .int .u64 (n0 : Int)] 23 hh3.symm
  have fV := aV.two
  have lV := aV.lt
  have HB4 := Lib.hid (keep1 HB3.out hbV)
  have HAT4 := Lib.hid (HAT3.out.below hbV)
  have HAP4 := Lib.hid (HAP3.out.below hbV)
  clear hb HTO HAT2 HAP2 hbV
  go_wp2_with (go_at_call 102; refine (plus2_any h3 s n0 _ (by have := HSG.out; omega) (by have := HSG.out; omega) (by omega) (by omega) (aV.cell rfl) (aV.cell rfl)).mono ?_)
  rintro e w4 ⟨rfl, rfl⟩
  rw [p1, p2]
  obtain ⟨W4, hW4⟩ : ∃ W, w3.alloc (.cells #[.int .u64 s, .int .u64 (n0 : Int)] 23) = W := ⟨_, rfl⟩
  rw [hW4] at HB4 HAT4 HAP4 ⊢
  clear fV lV aV HB3 HAT3 HAP3 hW4 hh3 p1 p2 hc0
  go_wp2_with (go_at_call 114; refine (HGD.out W4 HB4.out).mono ?_)
  rintro e w5 ⟨⟨gb, rfl⟩, hb⟩
  have HB5 := Lib.hid (keep1 HB4.out hb)
  have HAT5 := Lib.hid (HAT4.out.below hb)
  have HAP5 := Lib.hid (HAP4.out.below hb)
  clear hb HB4 HAT4 HAP4 HGD
  cases gb with
  | false =>
    have HF : Hid (GrLd u v row waits w (.returned (.tuple #[.pointer none, .int .i64 1])) w5) := ⟨HB5.out, .inr ⟨1, by omega, rfl⟩⟩
    go_wp2
    go_ret2
    exact HF.out
  | true =>
  have hn16 : ¬ (16 ≤ (n0 : Int)) := by omega
  have f5 := HAP5.out.two
  have l5 := HAP5.out.lt
  go_wp2_with (go_at_call 115; refine (limit_any u v s w5 (by have := HUV.out; omega) (by have := HUV.out; omega) (by have := HSG.out; omega)).mono ?_)
  rintro e w6 ⟨rfl, hb⟩
  have HB6 := Lib.hid (keep1 HB5.out hb)
  have HAT6 := Lib.hid (HAT5.out.below hb)
  obtain ⟨L, hL⟩ : ∃ L, limT u v s = L := ⟨_, rfl⟩
  rw [hL]
  clear hb HB5 HAT5 HAP5 f5 l5 hn16 hL
  go_wp2
  go_loopw [16, 56] (fun _ i wr => ∃ k : Nat, k ≤ n1 ∧ i = .int .i64 k ∧ Below w6.heap.size w6 wr) (fun _ i _ => n1 - (intOf i).toNat)
  case atStart => exact ⟨0, by omega, rfl, Below.refl _ _⟩
  case round =>
    obtain ⟨k, hk, rfl, hbr⟩ := hrel
    by_cases hlt : k < n1
    · have hkl : k < row.length := by have := HN.out; omega
      obtain ⟨g', o', e, hg', d1, d2, d3⟩ := (HR.out.below (keep1 HB6.out hbr)).at k hkl
      subst e
      obtain ⟨⟨z1, z2, z3⟩, hz⟩ : ∃ z, row[k]'hkl = z := ⟨_, rfl⟩
      rw [hz] at d1 d2 d3
      dsimp only at d1 d2 d3
      have k0 : (0 : Int) ≤ k := by omega
      have k1 : (k : Int) < n1 := by omega
      have k2 : IntKind.i64.wrap ((k : Int) + 1) = ((k + 1 : Nat) : Int) := by simp only [IntKind.wrap_i64]; omega
      have HBA : Hid (Below w6.heap.size w6 (wr.alloc (.cells #[.int .i64 z1, .int .u64 z2, .int .u64 z3] 230))) := keep1 hbr ((Below.refl _ _).alloc (Nat.le_refl _) _)
      have HF : Hid (GrLd u v row waits w (.returned (.tuple #[.pointer none, .int .i64 1])) (wr.alloc (.cells #[.int .i64 z1, .int .u64 z2, .int .u64 z3] 230))) := ⟨keep1 HB6.out HBA.out, .inr ⟨1, by omega, rfl⟩⟩
      have aP := At.new wr #[.int .i64 z1, .int .u64 z2, .int .u64 z3] 230
      have fP := aP.three
      have lP := aP.lt
      obtain ⟨x, hx⟩ : ∃ x, IntKind.u64.wrap (z2 + z3) = x := ⟨_, rfl⟩
      by_cases hgt : L < x
      · clear hz hkl aP
        go_wp2
        go_ret2
        exact HF.out
      · clear hz hkl aP
        go_wp2
        go_roundw
        case rel => exact ⟨k + 1, by omega, by simp, HBA.out⟩
        case measure => simp [intOf]; omega
    · obtain rfl : k = n1 := by omega
      have HB7 := Lib.hid (keep1 HB6.out hbr)
      have HAT7 := Lib.hid (HAT6.out.below hbr)
      clear hlt hbr HAT6 HB6 HR
      go_wp2_with (go_at_call 116; refine (HCT.out wr HB7.out).mono ?_)
      rintro e w8 ⟨A1, c1, rfl, ho1, hb⟩
      rw [HN.out.2]
      have HB8 := Lib.hid (keep1 HB7.out hb)
      have HAT8 := Lib.hid (HAT7.out.below hb)
      have HO8 : Hid (OwnT 0 w8 A1 c1 row ∧ ∀ j ∈ blk A1, wr.heap.size ≤ j ∧ j < w8.heap.size) := ⟨OwnT.mono ho1 (Nat.zero_le _), fun j hj => by obtain ⟨a, ha, rfl⟩ := blk_mem hj; exact ho1.base_le a ha⟩
      have HZ8 : Hid (wr.heap.size ≤ w8.heap.size) := hb.size
      clear ho1 hb HCT
      go_wp2_with (go_at_call 117; refine (HCW.out w8 HB8.out).mono ?_)
      rintro e w9 ⟨A2, c2, rfl, ho2, hb⟩
      rw [HN.out.1]
      have HB9 := Lib.hid (keep1 HB8.out hb)
      have a9 := HAT8.out.below hb
      have HZ : Hid (w.heap.size ≤ wr.heap.size ∧ wr.heap.size ≤ w8.heap.size ∧ b < wr.heap.size ∧ w.heap.size ≤ b) := ⟨HB7.out.size, HZ8.out, HAT7.out.lt, HGE.out⟩
      have hF : Frame [b] w9 (((w9.setCell ⟨b, 2, none⟩ (.slice A1 k c1)).setCell ⟨b, 3, none⟩ (.slice A2 n0 c2)).setCell ⟨b, 4, none⟩ (.int .u64 (s + (n0 : Int)))) := ((Frame.set [b] w9 b 2 _ (by simp)).setc (.inl (by simp)) _ _).setc (.inl (by simp)) _ _
      have hbx := ((a9.set_any 2 (.slice A1 k c1) rfl).set_any 3 (.slice A2 n0 c2) rfl).set_any 4 (.int .u64 (s + (n0 : Int))) rfl
      have HFIN : Hid (GrLd u v row waits w (.returned (.tuple #[.pointer (some ⟨b, 0, none⟩), .int .i64 0])) (((w9.setCell ⟨b, 2, none⟩ (.slice A1 k c1)).setCell ⟨b, 3, none⟩ (.slice A2 n0 c2)).setCell ⟨b, 4, none⟩ (.int .u64 (s + (n0 : Int))))) := by
        have hz := HZ.out
        refine ⟨hF.below HB9.out HB9.out.size fun j hj => by rw [List.mem_singleton] at hj; omega, .inl ⟨b, A1, A2, c1, c2, rfl, hz.2.2.2, fun j hj => ?_, ⟨?_, ?_, ?_, SepA.of fun j hj hj' => ?_, fun hm => ?_, fun hm => ?_⟩⟩⟩
        · rcases List.mem_append.1 hj with h1 | h1
          · have := (HO8.out.2 j h1).1; omega
          · obtain ⟨a, ha, rfl⟩ := blk_mem h1
            have := (ho2.base_le a ha).1; omega
        · rw [HN.out.1, HN.out.2, HSV.out]; exact hbx
        · exact ownT_frame (HO8.out.1.below hb) hF fun j hj hm => by rw [List.mem_singleton] at hm; have := (HO8.out.2 j hj).1; omega
        · refine ownW_frame (ownW_mono ho2 (Nat.zero_le _)) hF fun j hj hm => ?_
          rw [List.mem_singleton] at hm
          obtain ⟨a, ha, rfl⟩ := blk_mem hj
          have := (ho2.base_le a ha).1; omega
        · obtain ⟨a, ha, rfl⟩ := blk_mem hj'
          have h1 := (ho2.base_le a ha).1
          have h2 := (HO8.out.2 _ hj).2
          omega
        · have := (HO8.out.2 b hm).1; omega
        · obtain ⟨a, ha, e⟩ := blk_mem hm
          have := (ho2.base_le a ha).1; omega
      have f9 := a9.five
      have l9 := a9.lt
      clear hbx hF ho2 hb HCW a9
      go_wp2
      go_ret2
      exact HFIN.out
end Go.Proofs.YtlbnlmhcpephbaaGreatDoor

namespace Go.Proofs.YtlbnlmhcpephbaaGreatDoor
open Go.ChangeShapes Go.WideShapes Go.ChangeAt Go.RowKit Go.Deep
structure Lf where
 A : Option Addr
 cap : Nat
 vals : List (Int × Int)
 bytes : Bool
def Lf.ok (w : World) (x : Lf) : Prop := RdP w x.A x.vals ∧ okP x.vals ∧ x.vals.length ≤ 9223372036854775807
def RdL (w : World) (A : Option Addr) (ls : List Lf) : Prop := Rd w A (ls.flatMap fun x => [.slice x.A x.vals.length x.cap, .bool x.bytes]) ∧ ∀ x ∈ ls, x.ok w
theorem Lf.ok_below {w w' : World} {x : Lf} (h : x.ok w) (hb : Below w.heap.size w w') : x.ok w' := ⟨h.1.below hb, h.2⟩
theorem RdL.below {w w' : World} {A : Option Addr} {ls : List Lf} (h : RdL w A ls) (hb : Below w.heap.size w w') : RdL w' A ls := ⟨h.1.below hb, fun x hx => Lf.ok_below (h.2 x hx) hb⟩
theorem RdL.at {w : World} {A : Option Addr} {ls : List Lf} (h : RdL w A ls) (j : Nat) (hj : j < ls.length) :
  ∃ g o, A = some ⟨g, o, none⟩ ∧ g < w.heap.size ∧ w.cell? ⟨g, o + j * 2, none⟩ = some (.slice (ls[j]'hj).A (ls[j]'hj).vals.length (ls[j]'hj).cap) ∧ w.cell? ⟨g, o + j * 2 + 1, none⟩ = some (.bool (ls[j]'hj).bytes) := by
 obtain ⟨q0, q1⟩ := flat2 (f := fun x : Lf => Value.slice x.A x.vals.length x.cap) (g := fun x => Value.bool x.bytes) ls j hj
 obtain ⟨g, o, rfl, hg, h0⟩ := h.1 _ _ q0
 obtain ⟨g', o', e, _, h1⟩ := h.1 _ _ q1
 simp only [Option.some.injEq, Addr.mk.injEq, and_true] at e
 obtain ⟨rfl, rfl⟩ := e
 exact ⟨g, o, rfl, hg, h0, h1⟩
section
variable {H : Type} {enc : TypeId × Value → H} {P : Program} {w : World}
theorem open_leaves {t e s v : TypeId} {f0 f1 e0 e1 : Field} {a0 : Option Addr} {len cap : Nat} {d : DataW H} {p : List MemPlace} (ht : P.underlying t = some (.slice e)) (he : P.underlying e = some (.struct #[f0, f1]))
  (hone : oneCellFields P #[f0, f1] = true) (hC : P.cellsOf e = 2) (h0 : P.underlying f0.type = some (.slice v)) (h1 : P.underlying f1.type = some .bool)
  (hv : P.underlying v = some (.struct #[e0, e1])) (hone' : oneCellFields P #[e0, e1] = true) (hC' : P.cellsOf v = 2) (he0 : P.underlying e0.type = some (.int .i64)) (he1 : P.underlying e1.type = some (.int .u64))
  (h : DataW.Trod enc P w 0 (fun _ => true) true t (.slice a0 len cap) d p) :
  ∃ ls : List Lf, ls.length = len ∧ RdL w a0 ls ∧ len ≤ 9223372036854775807 := by
 obtain ⟨hl, hi⟩ := open_fields ht he hone hC h
 obtain ⟨xs, hxl, hx⟩ := list_choose (P := fun i (x : Lf) => x.ok w ∧
   (∃ g o, a0 = some ⟨g, o, none⟩ ∧ g < w.heap.size ∧ w.cell? ⟨g, o + i * 2, none⟩ = some (.slice x.A x.vals.length x.cap)) ∧ (∃ g o, a0 = some ⟨g, o, none⟩ ∧ g < w.heap.size ∧ w.cell? ⟨g, o + (i * 2 + 1), none⟩ = some (.bool x.bytes))) len (fun i him => by
  obtain ⟨n, hn⟩ := hi i him
  obtain ⟨v0, y0, c0, t0⟩ := hn 0 f0 rfl
  obtain ⟨v1, y1, c1, t1⟩ := hn 1 f1 rfl
  obtain ⟨b, e1', _⟩ := DataW.trod_bool h1 t1
  obtain ⟨A, l, c, e0'⟩ := Go.Joins.slice_form h0 t0
  simp only [List.cons.injEq, and_true] at e0' e1'
  subst e0' e1'
  have hT : DataW.Trod enc P w 0 (fun _ => true) true f0.type (.slice A l c) y0.1 y0.2 := ⟨n, by simpa [Value.cells] using t0⟩
  obtain ⟨zs, rfl, hR, hW, hL⟩ := open_two_rd h0 hv hone' hC' he0 he1 hT
  exact ⟨⟨A, c, zs, b⟩, ⟨hR, fun x hx => ⟨wf_i64 (hW x hx).1, wf_u64 (hW x hx).2⟩, hL⟩, c0, c1⟩)
 refine ⟨xs, hxl, ⟨fun j u hj => ?_, fun x hx' => ?_⟩, hl⟩
 ·have hjl := (List.getElem?_eq_some_iff.1 hj).1
  rw [flat2_len] at hjl
  obtain ⟨i, hij⟩ : ∃ i, i = j / 2 := ⟨_, rfl⟩
  obtain ⟨_, p0, p1⟩ := hx i (by omega)
  obtain ⟨q0, q1⟩ := flat2 (f := fun x : Lf => Value.slice x.A x.vals.length x.cap) (g := fun x => Value.bool x.bytes) xs i (by omega)
  rcases (show j = i * 2 ∨ j = i * 2 + 1 by omega) with rfl | rfl
  ·rw [q0] at hj
   obtain rfl := Option.some.inj hj
   exact p0
  ·rw [q1] at hj
   obtain rfl := Option.some.inj hj
   exact p1
 ·obtain ⟨i, hil, rfl⟩ := List.getElem_of_mem hx'
  exact (hx i hil).1
theorem array11 {α : Type} {cs : Array α} (h : cs.size = 11) : ∃ a0 a1 a2 a3 a4 a5 a6 a7 a8 a9 a10, cs = #[a0, a1, a2, a3, a4, a5, a6, a7, a8, a9, a10] := by
 obtain ⟨l⟩ := cs
 match l, h with
 | [a0, a1, a2, a3, a4, a5, a6, a7, a8, a9, a10], _ => exact ⟨a0, a1, a2, a3, a4, a5, a6, a7, a8, a9, a10, rfl⟩
theorem field_int {fs : Array Field} {k : IntKind} {n : Nat} {cs : List Value} {xs : List (DataW H × List MemPlace)} (hlen : xs.length = fs.size)
  (hf : ∀ (i : Nat) (f : Field), fs[i]? = some f → DataW.trod enc P w 0 (fun _ => true) true n f.type ((cs.drop f.offset).take (P.cellsOf f.type)) = xs[i]?)
  (i o : Nat) (c : Value) (f : Field) (hi : fs[i]? = some f) (ho : f.offset = o) (hc : P.cellsOf f.type = 1) (hu : P.underlying f.type = some (.int k)) (hcs : (cs.drop o).take 1 = [c]) : ∃ x : Int, c = .int k x ∧ (Lit.int k x).wf = true := by
 have h1 := hf i f hi
 rw [ho, hc, hcs] at h1
 have hl : i < xs.length := by rw [hlen]; exact (Array.getElem?_eq_some_iff.1 hi).1
 rw [List.getElem?_eq_getElem hl] at h1
 obtain ⟨x, e, _, wf⟩ := DataW.trod_int hu h1
 exact ⟨x, by simpa using e, wf⟩
theorem open_sconf {r : Reach} {b0 : Nat} {t : TypeId} {g0 g1 g2 g3 g4 g5 g6 g7 g8 g9 h0 h1 : Field} {v : Value} {d : DataW H} {p : List MemPlace} (hs : P.underlying t = some (.struct #[g0, g1, g2, g3, g4, g5, g6, g7, g8, g9])) (hC : P.cellsOf t = 11)
  (ho : (g0.offset, g1.offset, g2.offset, g3.offset, g4.offset, g5.offset, g6.offset, g7.offset, g8.offset, g9.offset) = (0, 1, 3, 4, 5, 6, 7, 8, 9, 10))
  (hc : (P.cellsOf g0.type, P.cellsOf g1.type, P.cellsOf g2.type, P.cellsOf g3.type, P.cellsOf g4.type, P.cellsOf g5.type, P.cellsOf g6.type, P.cellsOf g7.type, P.cellsOf g8.type, P.cellsOf g9.type) = (1, 2, 1, 1, 1, 1, 1, 1, 1, 1))
  (u0 : P.underlying g0.type = some (.int .i64)) (u1 : P.underlying g1.type = some (.struct #[h0, h1])) (hgo : (h0.offset, h1.offset, P.cellsOf h0.type, P.cellsOf h1.type) = (0, 1, 1, 1)) (k0 : P.underlying h0.type = some (.int .u64)) (k1 : P.underlying h1.type = some (.int .u64))
  (u2 : P.underlying g2.type = some (.int .i64)) (u3 : P.underlying g3.type = some (.int .i64)) (u4 : P.underlying g4.type = some (.int .i64)) (u5 : P.underlying g5.type = some (.int .u64)) (u6 : P.underlying g6.type = some (.int .i64)) (u7 : P.underlying g7.type = some (.int .i64)) (u8 : P.underlying g8.type = some (.int .i64)) (u9 : P.underlying g9.type = some (.int .u64))
  (hv : Value.okWide P w r b0 t v) (h : DataW.Trod enc P w 0 (fun _ => true) true t v d p) :
  ∃ (kd pn pd sd mo dg li de fa wi wo : Int), v = .agg #[.int .i64 kd, .int .u64 pn, .int .u64 pd, .int .i64 sd, .int .i64 mo, .int .i64 dg, .int .u64 li, .int .i64 de, .int .i64 fa, .int .i64 wi, .int .u64 wo] ∧
   (Lit.int .i64 kd).wf = true ∧ (Lit.int .u64 pn).wf = true ∧ (Lit.int .u64 pd).wf = true ∧ (Lit.int .i64 sd).wf = true ∧ (Lit.int .i64 mo).wf = true ∧ (Lit.int .i64 dg).wf = true ∧ (Lit.int .u64 li).wf = true ∧ (Lit.int .i64 de).wf = true ∧ (Lit.int .i64 fa).wf = true ∧ (Lit.int .i64 wi).wf = true ∧ (Lit.int .u64 wo).wf = true := by
 obtain ⟨cs, rfl, hsz⟩ := okWide_struct hs hv
 obtain ⟨c0, c1, c2, c3, c4, c5, c6, c7, c8, c9, c10, rfl⟩ := array11 (hsz.trans hC)
 obtain ⟨fuel, hf⟩ := h
 obtain ⟨xs, n, _, _, _, hlen, hg⟩ := DataW.trod_struct hs hf
 simp only [Prod.mk.injEq] at ho hc hgo
 obtain ⟨o0, o1, o2, o3, o4, o5, o6, o7, o8, o9⟩ := ho
 obtain ⟨q0, q1, q2, q3, q4, q5, q6, q7, q8, q9⟩ := hc
 obtain ⟨r0, r1, s0, s1⟩ := hgo
 obtain ⟨z0, rfl, w0⟩ := field_int hlen hg 0 0 c0 g0 rfl o0 q0 u0 rfl
 obtain ⟨z2, rfl, w2⟩ := field_int hlen hg 2 3 c3 g2 rfl o2 q2 u2 rfl
 obtain ⟨z3, rfl, w3⟩ := field_int hlen hg 3 4 c4 g3 rfl o3 q3 u3 rfl
 obtain ⟨z4, rfl, w4⟩ := field_int hlen hg 4 5 c5 g4 rfl o4 q4 u4 rfl
 obtain ⟨z5, rfl, w5⟩ := field_int hlen hg 5 6 c6 g5 rfl o5 q5 u5 rfl
 obtain ⟨z6, rfl, w6⟩ := field_int hlen hg 6 7 c7 g6 rfl o6 q6 u6 rfl
 obtain ⟨z7, rfl, w7⟩ := field_int hlen hg 7 8 c8 g7 rfl o7 q7 u7 rfl
 obtain ⟨z8, rfl, w8⟩ := field_int hlen hg 8 9 c9 g8 rfl o8 q8 u8 rfl
 obtain ⟨z9, rfl, w9⟩ := field_int hlen hg 9 10 c10 g9 rfl o9 q9 u9 rfl
 have t1 := hg 1 g1 rfl
 rw [o1, q1] at t1
 have hl1 : 1 < xs.length := by rw [hlen]; exact (Array.getElem?_eq_some_iff.1 (show #[g0, g1, g2, g3, g4, g5, g6, g7, g8, g9][1]? = some g1 from rfl)).1
 rw [List.getElem?_eq_getElem hl1] at t1
 obtain ⟨y0, y1, n', _, _, v0, v1⟩ := trod_struct2 u1 t1
 rw [r0, s0] at v0
 rw [r1, s1] at v1
 replace v0 : DataW.trod enc P w 0 (fun _ => true) true n' h0.type [c1] = some y0 := v0
 replace v1 : DataW.trod enc P w 0 (fun _ => true) true n' h1.type [c2] = some y1 := v1
 obtain ⟨x0, e0, _, wx0⟩ := DataW.trod_int k0 v0
 obtain ⟨x1, e1, _, wx1⟩ := DataW.trod_int k1 v1
 obtain rfl : c1 = .int .u64 x0 := by simpa using e0
 obtain rfl : c2 = .int .u64 x1 := by simpa using e1
 exact ⟨z0, x0, x1, z2, z3, z4, z5, z6, z7, z8, z9, rfl, w0, wx0, wx1, w2, w3, w4, w5, w6, w7, w8, w9⟩
end
end Go.Proofs.YtlbnlmhcpephbaaGreatDoor

namespace Go.Proofs.YtlbnlmhcpephbaaGreatDoor
open Go.RowKit
structure LOk (l : List (Int × Int)) : Prop where
 ok : okP l
 pos : ∀ x ∈ l, 0 < x.2 ∧ x.2 ≤ 20
 len : l.length ≤ 360
theorem LOk.sum {l : List (Int × Int)} (h : LOk l) : 0 ≤ sumP l ∧ sumP l ≤ 7200 := by
  have key : ∀ l : List (Int × Int), (∀ x ∈ l, 0 < x.2 ∧ x.2 ≤ 20) → 0 ≤ sumP l ∧ sumP l ≤ 20 * (l.length : Int) := by
    intro l
    induction l with
    | nil => intro _; simp [sumP]
    | cons x l ih =>
      intro h
      have h1 := ih fun y hy => h y (by simp [hy])
      have h2 := h x (by simp)
      unfold sumP at *
      simp only [List.map_cons, List.sum_cons, List.length_cons]
      omega
  have h1 := key l h.pos
  have := h.len
  omega
theorem LOk.vok {l : List (Int × Int)} (h : LOk l) : VOk l := ⟨h.ok, fun x hx => (h.pos x hx).1, by have := h.sum; omega⟩
theorem LOk.nil : LOk [] := ⟨fun x hx => by simp at hx, fun x hx => by simp at hx, by simp⟩
theorem LOk.left {l k : List (Int × Int)} (h : LOk (l ++ k)) : LOk l := ⟨fun x hx => h.ok x (by simp [hx]), fun x hx => h.pos x (by simp [hx]), by have := h.len; rw [List.length_append] at this; omega⟩
theorem LOk.right {l k : List (Int × Int)} (h : LOk (l ++ k)) : LOk k := ⟨fun x hx => h.ok x (by simp [hx]), fun x hx => h.pos x (by simp [hx]), by have := h.len; rw [List.length_append] at this; omega⟩
theorem LOk.snoc {l : List (Int × Int)} {x n : Int} (h : LOk l) (hl : l.length < 360) (hx : -9223372036854775808 ≤ x ∧ x ≤ 9223372036854775807) (hn : 0 < n ∧ n ≤ 20) : LOk (l ++ [(x, n)]) :=
 ⟨fun y hy => by
  rcases List.mem_append.1 hy with h1 | h1
  ·exact h.ok y h1
  ·rw [List.mem_singleton] at h1; subst h1; exact ⟨hx, by show 0 ≤ n ∧ n < _; omega⟩, fun y hy => by
  rcases List.mem_append.1 hy with h1 | h1
  ·exact h.pos y h1
  ·rw [List.mem_singleton] at h1; subst h1; exact hn, by rw [List.length_append]; simp; omega⟩
abbrev SkT := World → Nat → List Nat → List (Int × Int) → Prop
def GrowR (Sk : SkT) (b : Nat) (S : List Nat) (l : List (Int × Int)) (w w' : World) : Prop := ∃ S', GrownS S S' w.heap.size ∧ Sk w' b S' l ∧ Frame S w w'
def NewSk (Sk : SkT) (l : List (Int × Int)) (w : World) (e : Ending) (w' : World) : Prop :=
 ((∃ b S, e = .returned (.tuple #[.pointer (some ⟨b, 0, none⟩), .int .i64 0]) ∧ Within S w.heap.size w'.heap.size ∧ Sk w' b S l) ∨ (∃ f : Int, f ≠ 0 ∧ e = .returned (.tuple #[.pointer none, .int .i64 f]))) ∧ Below w.heap.size w w'
def PutG (Sk : SkT) (b : Nat) (S : List Nat) (l : List (Int × Int)) (x n : Int) (w : World) (e : Ending) (w' : World) : Prop :=
 ∃ f : Int, e = .returned (.int .i64 f) ∧ ((f = 0 ∧ 0 < n ∧ GrowR Sk b S (l ++ [(x, n)]) w w') ∨ (f ≠ 0 ∧ GrowR Sk b S l w w'))
def JoinG (Sk : SkT) (b : Nat) (S : List Nat) (l l' : List (Int × Int)) (w : World) (e : Ending) (w' : World) : Prop :=
 ∃ f : Int, e = .returned (.int .i64 f) ∧ ((f = 0 ∧ GrowR Sk b S (l ++ l') w w') ∨ (f ≠ 0 ∧ Frame S w w'))
structure KindC (c : Cfg) (Sk : SkT) : Prop where
 frame : ∀ {w w' : World} {b : Nat} {S T : List Nat} {l : List (Int × Int)}, Sk w b S l → Frame T w w' → Apart S T → Sk w' b S l
 lt : ∀ {w : World} {b : Nat} {S : List Nat} {l : List (Int × Int)}, Sk w b S l → ∀ k ∈ S, k < w.heap.size
 mem : ∀ {w : World} {b : Nat} {S : List Nat} {l : List (Int × Int)}, Sk w b S l → b ∈ S
 new : ∀ w, TensAt w → Calls Tryz.prog 25 #[c.val] w (NewSk Sk [] w)
 put : ∀ b S l (x n : Int) w, Sk w b S l → LOk l → l.length < 360 → (-9223372036854775808 ≤ x ∧ x ≤ 9223372036854775807) → (0 ≤ n ∧ n ≤ 20) →
  Calls Tryz.prog 26 #[.pointer (some ⟨b, 0, none⟩), .int .i64 x, .int .u64 n] w (PutG Sk b S l x n w)
 code : ∀ b S l w, Sk w b S l → LOk l → Calls Tryz.prog 52 #[.pointer (some ⟨b, 0, none⟩)] w fun e w' => ∃ (st : ByteArray) (f : Int), e = .returned (.tuple #[.string st, .int .i64 f]) ∧ Below w.heap.size w w' ∧
  ∀ W, TensAt W → Calls Tryz.prog 38 #[.string st] W (NewSk Sk l W)
 join : ∀ b o S T l l' w, Sk w b S l → Sk w o T l' → Apart S T → LOk (l ++ l') →
  Calls Tryz.prog 28 #[.pointer (some ⟨b, 0, none⟩), .pointer (some ⟨o, 0, none⟩)] w (JoinG Sk b S l l' w)
section
variable {c : Cfg} {Sk : SkT} {w w' : World} {b : Nat} {S : List Nat} {l : List (Int × Int)}
theorem KindC.below (K : KindC c Sk) (h : Sk w b S l) (hb : Below w.heap.size w w') : Sk w' b S l := K.frame (T := []) h (Frame.of_below hb) (fun _ _ => by simp)
end
structure PlayC (c : Cfg) (ls : List Lf) : Prop where
 len : ls.length ≤ 12
 few : ∀ x ∈ ls, x.vals.length ≤ 30 ∧ ∀ v ∈ x.vals, v.2 ≤ 20
 den : c.kd = 1 → c.pd ≤ 100
end Go.Proofs.YtlbnlmhcpephbaaGreatDoor

namespace Go.Proofs.YtlbnlmhcpephbaaGreatDoor
open Go.RowKit
def coreGr (q : Option Addr) : Value := .iface 124 (.agg #[.pointer q])
theorem mgPut (q : Nat) : MethC 124 (.agg #[.pointer (some ⟨q, 0, none⟩)]) "Put" 271 (.pointer (some ⟨q, 0, none⟩)) := ⟨fun w => by kernel_rfl, fun a w => by kernel_rfl⟩
theorem mgQuant (q : Nat) : MethC 124 (.agg #[.pointer (some ⟨q, 0, none⟩)]) "Quantile" 272 (.pointer (some ⟨q, 0, none⟩)) := ⟨fun w => by kernel_rfl, fun a w => by kernel_rfl⟩
theorem mgJoin (q : Nat) : MethC 124 (.agg #[.pointer (some ⟨q, 0, none⟩)]) "ogive/suite.join" 305 (.agg #[.pointer (some ⟨q, 0, none⟩)]) := ⟨fun w => by kernel_rfl, fun a w => by kernel_rfl⟩
theorem mgWrite (q : Nat) : MethC 124 (.agg #[.pointer (some ⟨q, 0, none⟩)]) "ogive/suite.write" 308 (.agg #[.pointer (some ⟨q, 0, none⟩)]) := ⟨fun w => by kernel_rfl, fun a w => by kernel_rfl⟩
def SkG (pn pd : Int) (w : World) (b : Nat) (S : List Nat) (l : List (Int × Int)) : Prop :=
 ∃ q Q, S = b :: Q ∧ b ∉ Q ∧ At w b #[.int .i64 4, .int .u64 pn, .int .u64 pd, .int .i64 0, .int .i64 0, .int .i64 0, .int .u64 0, .int .i64 0, .int .i64 0, .int .i64 0, .int .u64 0, coreGr (some ⟨q, 0, none⟩)] 79 ∧ GrV 15 w q Q pn pd l
section
variable {w w' : World} {b : Nat} {S T : List Nat} {pn pd : Int} {l : List (Int × Int)}
theorem SkG.frame (h : SkG pn pd w b S l) (hf : Frame T w w') (hn : Apart S T) : SkG pn pd w' b S l := by
 obtain ⟨q, Q, rfl, hb, ha, h⟩ := h
 exact ⟨q, Q, rfl, hb, hf.at ha (hn b (by simp)), h.frame hf fun j hj => hn j (by simp [hj])⟩
theorem SkG.lt (h : SkG pn pd w b S l) : ∀ k ∈ S, k < w.heap.size := by
 obtain ⟨q, Q, rfl, hb, ha, h⟩ := h
 intro k hk
 rcases List.mem_cons.1 hk with rfl | hk
 ·exact ha.lt
 ·exact h.lt.1 k hk
theorem SkG.mem (h : SkG pn pd w b S l) : b ∈ S := by
 obtain ⟨q, Q, rfl, _⟩ := h
 simp
theorem SkG.of {q : Nat} {Q : List Nat} {l' : List (Int × Int)} (hb : b ∉ Q) (ha : At w b #[.int .i64 4, .int .u64 pn, .int .u64 pd, .int .i64 0, .int .i64 0, .int .i64 0, .int .u64 0, .int .i64 0, .int .i64 0, .int .i64 0, .int .u64 0, coreGr (some ⟨q, 0, none⟩)] 79) (h : GrG 15 q Q pn pd l' w w') : GrowR (SkG pn pd) b (b :: Q) l' w w' := by
 obtain ⟨Q', hg, hV, hF⟩ := h
 obtain ⟨n1, n2⟩ := grown_sk hb ha.lt hg
 exact ⟨b :: Q', n2, ⟨q, Q', rfl, n1, hF.at ha hb, hV⟩, hF.mono fun j hj => by simp [hj]⟩
end
set_option maxRecDepth 100000 in
set_option maxHeartbeats 1000000 in
theorem sbare_gr (pn pd sd mo dg li de fa wi wo : Int) (w : World) :
  Calls Tryz.prog 36 #[.agg #[.int .i64 4, .int .u64 pn, .int .u64 pd, .int .i64 sd, .int .i64 mo, .int .i64 dg, .int .u64 li, .int .i64 de, .int .i64 fa, .int .i64 wi, .int .u64 wo]] w fun e w' => e = .returned (.agg #[.int .i64 4, .int .u64 pn, .int .u64 pd, .int .i64 0, .int .i64 0, .int .i64 0, .int .u64 0, .int .i64 0, .int .i64 0, .int .i64 0, .int .u64 0]) ∧ Below w.heap.size w w' := by
 have d2 := ((At.new' (w.alloc (.cells #[.int .i64 4, .int .u64 pn, .int .u64 pd, .int .i64 sd, .int .i64 mo, .int .i64 dg, .int .u64 li, .int .i64 de, .int .i64 fa, .int .i64 wi, .int .u64 wo] 28)) #[.int .i64 4, .int .u64 pn, .int .u64 pd, .int .i64 0, .int .i64 0, .int .i64 0, .int .u64 0, .int .i64 0, .int .i64 0, .int .i64 0, .int .u64 0] 28 (b := w.heap.size + 1) (by simp)).alloc (.cells #[.int .i64 4, .int .u64 pn, .int .u64 pd, .int .i64 0, .int .i64 0, .int .i64 0, .int .u64 0, .int .i64 0, .int .i64 0, .int .i64 0, .int .u64 0] 28)).el
 go_enter Tryz.func36, Tryz.ntmps36
 go_wp2
 exact bodyPost_ret (v := .agg #[.int .i64 4, .int .u64 pn, .int .u64 pd, .int .i64 0, .int .i64 0, .int .i64 0, .int .u64 0, .int .i64 0, .int .i64 0, .int .i64 0, .int .u64 0]) (by simp only [results, Tryz.f36]; simp [go_sem, d2]) rfl ⟨rfl, (by repeat (first | with_reducible assumption | with_reducible exact Below.refl _ _ | with_reducible refine Below.drew ?_ | with_reducible refine Below.drewN ?_ _ | with_reducible refine Below.setCell ?_ (by first | omega | (simp; done) | (simp; omega)) _ | with_reducible refine Below.alloc ?_ (by first | omega | (simp; done) | (simp; omega) | (simp [World.setCell]; omega)) _))⟩
set_option maxRecDepth 100000 in
set_option maxHeartbeats 1000000 in
theorem sfresh_gr (pn pd : Int) (w : World) (hv : 0 ≤ pd ∧ pd < 18446744073709551616) :
  Calls Tryz.prog 37 #[.agg #[.int .i64 4, .int .u64 pn, .int .u64 pd, .int .i64 0, .int .i64 0, .int .i64 0, .int .u64 0, .int .i64 0, .int .i64 0, .int .i64 0, .int .u64 0]] w fun e w' =>
   ((∃ q Q, e = .returned (.tuple #[.iface 124 (.agg #[.pointer (some ⟨q, 0, none⟩)]), .int .i64 0]) ∧ Within Q w.heap.size w'.heap.size ∧ GrV 15 w' q Q pn pd []) ∨ (∃ f : Int, f ≠ 0 ∧ e = .returned (.tuple #[.iface 124 (.agg #[.pointer none]), .int .i64 f]))) ∧ Below w.heap.size w w' := by
 have hba : Below w.heap.size w (w.alloc (.cells #[.int .i64 4, .int .u64 pn, .int .u64 pd, .int .i64 0, .int .i64 0, .int .i64 0, .int .u64 0, .int .i64 0, .int .i64 0, .int .i64 0, .int .u64 0] 28)) := (Below.refl _ _).alloc (Nat.le_refl _) _
 have s1 := At.new w #[.int .i64 4, .int .u64 pn, .int .u64 pd, .int .i64 0, .int .i64 0, .int .i64 0, .int .u64 0, .int .i64 0, .int .i64 0, .int .i64 0, .int .u64 0] 28
 have f1 := s1.el
 have l1 := s1.lt
 have HN := Lib.hid fun W => gwnew_any pn pd W hv
 clear hv s1
 go_enter Tryz.func37, Tryz.ntmps37
 go_wp2_with fail
 obtain ⟨W1, hW1⟩ : ∃ W, w.alloc (.cells #[.int .i64 4, .int .u64 pn, .int .u64 pd, .int .i64 0, .int .i64 0, .int .i64 0, .int .u64 0, .int .i64 0, .int .i64 0, .int .i64 0, .int .u64 0] 28) = W := ⟨_, rfl⟩
 rw [hW1] at hba
 simp only [hW1]
 have HBA := Lib.hid hba
 clear hW1 f1 l1 hba
 refine (HN.out W1).mono ?_
 rintro e w1 ⟨hb, ⟨hok, q, hq, rfl, hat⟩ | ⟨hno, rfl⟩⟩
 ·have HR : Hid (Within [q] w.heap.size w1.heap.size ∧ GrV 15 w1 q [q] pn pd [] ∧ Below w.heap.size w w1) := ⟨fun j hj => by rw [List.mem_singleton] at hj; subst hj; exact ⟨Nat.le_trans HBA.out.size hq, hat.lt⟩, ⟨[], [], none, none, 0, 0, rfl, ⟨hat, Tt.OwnT.nil _ _, OwnW.nil _ _, (fun _ _ h => by cases h), by simp [blk], by simp [blk]⟩, GrP.nil _ _, by simp, hok⟩, keep1 HBA.out hb⟩
  clear hok hq hat hb HN HBA
  go_wp2
  go_ret2
  exact ⟨.inl ⟨q, [q], rfl, HR.out.1, HR.out.2.1⟩, HR.out.2.2⟩
 ·have HB := Lib.hid (keep1 HBA.out hb)
  clear hb HN HBA hno
  go_wp2
  go_ret2
  exact ⟨.inr ⟨1, by omega, rfl⟩, HB.out⟩
theorem sconf_gr (pn pd sd mo dg li de fa wi wo : Int) (w : World) (h : ¬ (sd = 0 ∧ mo = 0 ∧ dg = 0 ∧ li = 0 ∧ de = 0 ∧ fa = 0 ∧ wi = 0 ∧ wo = 0)) : (binOp .neq 28 (.agg #[.int .i64 4, .int .u64 pn, .int .u64 pd, .int .i64 sd, .int .i64 mo, .int .i64 dg, .int .u64 li, .int .i64 de, .int .i64 fa, .int .i64 wi, .int .u64 wo]) (.agg #[.int .i64 4, .int .u64 pn, .int .u64 pd, .int .i64 0, .int .i64 0, .int .i64 0, .int .u64 0, .int .i64 0, .int .i64 0, .int .i64 0, .int .u64 0])).run Tryz.prog w = .ok (.bool true) w := by
 go_simp
 exact fun e1 e2 e3 e4 e5 e6 e7 e8 => h ⟨e1, e2, e3, e4, e5, e6, e7, e8⟩
theorem sknew_gr (pn pd : Int) (w : World) (hv : 0 ≤ pd ∧ pd < 18446744073709551616) :
  Calls Tryz.prog 25 #[.agg #[.int .i64 4, .int .u64 pn, .int .u64 pd, .int .i64 0, .int .i64 0, .int .i64 0, .int .u64 0, .int .i64 0, .int .i64 0, .int .i64 0, .int .u64 0]] w (NewSk (SkG pn pd) [] w) := by
 refine (sknew_at 4 pn pd 0 0 0 0 0 0 0 0 124 (fun W q Q => GrV 15 W q Q pn pd []) (.agg #[.pointer none]) (fun W W' q Q S h hF hn => h.frame hF hn) w (fun W => sbare_gr pn pd 0 0 0 0 0 0 0 0 W) (fun W _ => sfresh_gr pn pd W hv)).mono ?_
 rintro e w' ⟨⟨b, q, Q, rfl, hW, hb, hat, hV⟩ | ⟨f, hf, rfl⟩, hB⟩
 ·exact ⟨.inl ⟨b, b :: Q, rfl, hW, q, Q, rfl, hb, hat, hV⟩, hB⟩
 ·exact ⟨.inr ⟨f, hf, rfl⟩, hB⟩
theorem sput_gr (pn pd : Int) (b : Nat) (S : List Nat) (l : List (Int × Int)) (x n : Int) (w : World) (h : SkG pn pd w b S l) (hx : -9223372036854775808 ≤ x ∧ x ≤ 9223372036854775807) (hn : 0 ≤ n ∧ n ≤ 20) (hs : sumP l + n ≤ 1000000) :
  Calls Tryz.prog 26 #[.pointer (some ⟨b, 0, none⟩), .int .i64 x, .int .u64 n] w (PutG (SkG pn pd) b S l x n w) := by
 obtain ⟨q, Q, rfl, hb, ha, h⟩ := h
 refine sput_at b q 124 _ _ _ _ _ _ _ _ _ _ _ _ x n w (fun f w' => (f = 0 ∧ 0 < n ∧ GrowR (SkG pn pd) b (b :: Q) (l ++ [(x, n)]) w w') ∨ (f ≠ 0 ∧ GrowR (SkG pn pd) b (b :: Q) l w w')) ha (mgPut q) ?_
 by_cases hz : n = 0
 ·subst hz
  refine (gput_zero q x w).mono ?_
  rintro e w' ⟨rfl, rfl⟩
  exact ⟨1, rfl, .inr ⟨by omega, SkG.of hb ha (GrG.same h (Below.refl _ _))⟩⟩
 ·refine (gput_v q Q pn pd x n l w h hx ⟨by omega, by omega⟩ hs).mono ?_
  rintro e w' ⟨rfl, hG⟩
  exact ⟨0, rfl, .inl ⟨rfl, by omega, SkG.of hb ha hG⟩⟩
def JcWgr (g q : Nat) (W : World) : Prop := At W g #[.pointer (some ⟨q, 0, none⟩)] 124
theorem JcWgr.at {g q : Nat} {W : World} (h : JcWgr g q W) : At W g #[.pointer (some ⟨q, 0, none⟩)] 124 := h
set_option maxRecDepth 100000 in
set_option maxHeartbeats 4000000 in
theorem sjoin_gr (q r : Nat) (F : List Nat) (R : World → World → Prop) (w : World) (hF : ∀ j ∈ F, j < w.heap.size)
  (hJ : ∀ W, Below w.heap.size w W → Calls Tryz.prog 309 #[.pointer (some ⟨q, 0, none⟩), .pointer (some ⟨r, 0, none⟩)] W fun e w' => e = .returned (.int .i64 0) ∧ Frame F W w' ∧ R W w') :
  Calls Tryz.prog 305 #[.agg #[.pointer (some ⟨q, 0, none⟩)], .iface 124 (.agg #[.pointer (some ⟨r, 0, none⟩)])] w fun e w' => e = .returned (.int .i64 0) ∧ ∃ W, Below w.heap.size w W ∧ Frame F W w' ∧ R W w' := by
 have hba : Below w.heap.size w (w.alloc (.cells #[.pointer (some ⟨q, 0, none⟩)] 124)) := (Below.refl _ _).alloc (Nat.le_refl _) _
 have a1 := At.new w #[.pointer (some ⟨q, 0, none⟩)] 124
 have hta : ∀ W : World, (Instr.typeAssert (.iface 124 (.agg #[.pointer (some ⟨r, 0, none⟩)])) 77 124 false).run Tryz.prog W = .ok (.agg #[.pointer (some ⟨r, 0, none⟩)]) W := fun W => by kernel_rfl
 have HJ := Lib.hid hJ
 have HF := Lib.hid hF
 clear hJ hF
 go_enter Tryz.func305, Tryz.ntmps305
 go_wp2
 obtain ⟨W1, hW1⟩ : ∃ W, w.alloc (.cells #[.pointer (some ⟨q, 0, none⟩)] 124) = W := ⟨_, rfl⟩
 obtain ⟨g, hg⟩ : ∃ r, w.heap.size = r := ⟨_, rfl⟩
 have HG := Lib.hid hg
 rw [hW1] at hba a1
 rw [hg] at a1
 simp only [hW1, hg]
 clear hW1 hg
 have hbd : Below W1.heap.size W1 W1.drew := (Below.refl _ _).drew
 obtain ⟨W4, hW4⟩ : ∃ W, W1.drew = W := ⟨_, rfl⟩
 rw [hW4] at hbd
 have hK4 : JcWgr g q W4 := a1.below hbd
 have HB4 := Lib.hid (keep1 hba hbd)
 haveI hne : Nonempty (Held (JcWgr g q)) := ⟨⟨W4, hK4⟩⟩
 have hfar1 := fun v : Held (JcWgr g q) => v.held.at.one
 refine wp_region_noPanic ?_
 refine wp_region_held_drew (S := HeldS (JcWgr g q)) (by kernel_rfl) (by rw [hW4]; exact HeldS.mk' hK4) (fun hHeld => ?_)
 rw [hW4] at hHeld ⊢
 have HK4 := Lib.hid hK4
 clear hW4 hK4 hbd hba a1
 refine wpAnyH_run0 [true, true, true] 4 (by kernel_rfl) (by kernel_rfl) (fun _ _ _ _ h => h) (by kernel_rfl) hHeld ?_
 simp only [runOps_true, runOps_false, runOps_nil]
 repeat (first | go_big_quiet_skip | (go_big_quiet_want; go_big_quiet_op; go_big_quiet_on))
 refine wpQuiet_nil ?_
 refine wpAnyH_ready (rs := [3]) (by kernel_rfl) (by simp) ?_
 refine AllReadyH.cons rfl (fun K hK => ?_) (AllReadyH.nil)
 go_simp
 refine hK.out _ _ (HeldS.mk' HK4.out) (fun hHeld => ?_)
 clear hK K
 refine wpAnyH_ready (rs := [4]) (by kernel_rfl) (by simp) ?_
 refine AllReadyH.cons rfl (fun K hK => ?_) (AllReadyH.nil)
 go_simp
 refine hK.out _ _ (HeldS.mk' HK4.out) (fun hHeld => ?_)
 clear hK K
 clear hfar1 hta
 refine wpAnyH_ready (rs := [5]) (by kernel_rfl) (by simp) ?_
 refine AllReadyH.cons rfl (fun K hK => ?_) AllReadyH.nil
 go_simp
 go_wp2_with (go_at_call 309; refine (HJ.out W4 HB4.out).mono ?_; rintro e w5 ⟨rfl, hFr, hR⟩)
 refine hK.out _ _ ?_ (fun hHeld => ?_)
 clear hK K
 ·exact HeldS.mk' (hFr.at HK4.out fun hm => by have := HF.out _ hm; have := HG.out; omega)
 have HFR := Lib.hid (And.intro hFr hR)
 clear hFr hR
 refine wpAnyH_run0 [false, false, false, false, false, false, true] 0 (by kernel_rfl) (by kernel_rfl) (fun _ _ _ _ h => h) (by kernel_rfl) hHeld ?_
 simp only [runOps_true, runOps_false, runOps_nil]
 repeat (first | go_big_quiet_skip | (go_big_quiet_want; go_big_quiet_op; go_big_quiet_on))
 refine wpQuiet_nil ?_
 refine wpAnyH_done (by kernel_rfl) ?_ _
 refine NoPanic.normal ?_
 clear hne hHeld
 go_wp2
 go_ret
 exact ⟨rfl, W4, HB4.out, HFR.out⟩
theorem sjn_gr (pn pd : Int) (b o : Nat) (S T : List Nat) (l l' : List (Int × Int)) (w : World) (h : SkG pn pd w b S l) (h' : SkG pn pd w o T l') (ap : Apart S T) (hs : sumP l + sumP l' ≤ 1000000) (hs1 : sumP l ≤ 1000000) (hs2 : sumP l' ≤ 1000000) :
  Calls Tryz.prog 28 #[.pointer (some ⟨b, 0, none⟩), .pointer (some ⟨o, 0, none⟩)] w (JoinG (SkG pn pd) b S l l' w) := by
 have hS := h.lt
 obtain ⟨q, Q, rfl, hb, ha, h⟩ := h
 obtain ⟨r, R, rfl, ho, ha', h'⟩ := h'
 have hapQ : Apart Q (o :: R) := fun j hj => ap j (by simp [hj])
 have hoQ : o ∉ Q := fun hm => hapQ o hm (by simp)
 have hapR : Apart Q R := fun j hj hm => hapQ j hj (by simp [hm])
 have hFS : ∀ j ∈ Q, j < w.heap.size := fun j hj => hS j (by simp [hj])
 refine (sjoin_at b o q r 124 _ 4 _ _ _ _ _ _ _ _ _ _ _ _ _ _ _ _ _ _ _ _ Q (fun W f w' => f = 0 ∧ GrG 15 q Q pn pd (l ++ l') W w') w ha ha' hb hoQ (mgJoin q) fun W hW => ((sjoin_gr q r Q (fun W w' => GrG 15 q Q pn pd (l ++ l') W w') W (fun j hj => Nat.lt_of_lt_of_le (hFS j hj) hW.size) (fun W2 hW2 => ?_)).mono fun e w' ⟨he, W2, hB, hF, hR⟩ => ⟨0, he, W2, keep1 hW hB, hF, rfl, hR⟩)).mono ?_
 ·refine (gjoin_v q r Q R pn pd l l' W2 ((h.below hW).below hW2) ((h'.below hW).below hW2) hapR hs hs1 hs2).mono fun e w' ⟨he, hG⟩ => ⟨he, ?_, hG⟩
  obtain ⟨_, _, _, hF⟩ := hG
  exact hF
 ·rintro e w' ⟨f, he, W, hB, hF, hf0, hG⟩
  refine ⟨f, he, .inl ⟨hf0, ?_⟩⟩
  obtain ⟨S', hg, hX, hF2⟩ := SkG.of hb (ha.below hB) hG
  exact ⟨S', fun j hj => (hg j hj).elim .inl fun h => .inr (Nat.le_trans hB.size h), hX, (Frame.of_below hB).trans hF2⟩
theorem squ_gr (pn pd : Int) (b : Nat) (S : List Nat) (l : List (Int × Int)) (p0 p1 : Int) (w : World) (h : SkG pn pd w b S l) (hs : sumP l ≤ 1000000) (hp : (0 ≤ p0 ∧ p0 < 18446744073709551616) ∧ (0 ≤ p1 ∧ p1 < 18446744073709551616)) :
  Calls Tryz.prog 14 #[.pointer (some ⟨b, 0, none⟩), .agg #[.int .u64 p0, .int .u64 p1]] w fun e w' => ∃ x f, e = .returned (.tuple #[.int .i64 x, .int .i64 f]) ∧ f = placeE p0 p1 (sumP l) ∧ (f = 0 → GrA pn pd l (placeT p0 p1 (sumP l)) x) ∧ Frame S w w' := by
 have hS := h.lt
 obtain ⟨q, Q, rfl, hb, ha, h⟩ := h
 refine (squant_at b q 124 _ _ _ _ _ _ _ _ _ _ _ _ p0 p1 Q w (fun W x f w' => f = placeE p0 p1 (sumP l) ∧ (f = 0 → GrA pn pd l (placeT p0 p1 (sumP l)) x)) (fun j hj => hS j (by simp [hj])) hb ha (mgQuant q) fun W hW => ?_).mono ?_
 ·refine (gquant_v q Q pn pd p0 p1 l W (h.below hW) hs hp).mono ?_
  rintro e w' ⟨x, f, he, h1, h2, hG⟩
  obtain ⟨_, _, _, hF⟩ := hG
  exact ⟨x, f, he, hF, h1, h2⟩
 ·rintro e w' ⟨x, f, he, W, hB, hF, h1, h2⟩
  exact ⟨x, f, he, h1, h2, ((Frame.of_below hB).trans hF).mono fun j hj => by simp [hj]⟩
end Go.Proofs.YtlbnlmhcpephbaaGreatDoor

namespace Go.Proofs.YtlbnlmhcpephbaaGreatDoor
open Go.RowKit
def tupB (t : Tu) : List UInt8 := natB (zigN t.1) ++ (natB t.2.1.toNat ++ natB t.2.2.toNat)
def tupsB (row : List Tu) : List UInt8 := row.flatMap tupB
theorem tupsB_nil : tupsB [] = [] := rfl
theorem tupsB_cons (t : Tu) (row : List Tu) : tupsB (t :: row) = tupB t ++ tupsB row := by unfold tupsB; rw [List.flatMap_cons]
theorem tupsB_take {row : List Tu} {k : Nat} (h : k < row.length) : tupsB (row.take (k + 1)) = tupsB (row.take k) ++ tupB (row[k]'h) := by
 rw [List.take_succ_eq_append_getElem h]
 unfold tupsB
 rw [List.flatMap_append, List.flatMap_singleton]
theorem tupB_len {t : Tu} (h : (-9223372036854775808 ≤ t.1 ∧ t.1 ≤ 9223372036854775807) ∧ (0 ≤ t.2.1 ∧ t.2.1 < 18446744073709551616) ∧ (0 ≤ t.2.2 ∧ t.2.2 < 18446744073709551616)) : (tupB t).length ≤ 30 := by
 have h1 := natB_len (zig_lt h.1.1 h.1.2)
 have h2 := natB_len (u := t.2.1.toNat) (by omega)
 have h3 := natB_len (u := t.2.2.toNat) (by omega)
 unfold tupB
 simp only [List.length_append]
 omega
theorem tupsB_len {row : List Tu} (h : Tt.okT row) : (tupsB row).length ≤ 30 * row.length := by
  induction row with
  | nil => simp [tupsB]
  | cons t row ih =>
    have h1 := ih fun u hu => h u (by simp [hu])
    have h2 := tupB_len (h t (by simp))
    rw [tupsB_cons, List.length_append, List.length_cons]
    omega
def GwW (cb q : Nat) (cs : Array Value) (W : World) : Prop := At W cb #[.pointer (some ⟨q, 0, none⟩)] 124 ∧ At W q cs 173
theorem GwW.at {cb q : Nat} {cs : Array Value} {W : World} (h : GwW cb q cs W) : At W cb #[.pointer (some ⟨q, 0, none⟩)] 124 ∧ At W q cs 173 := h
theorem GwW.below {cb q : Nat} {cs : Array Value} {W W' : World} (h : GwW cb q cs W) (hb : Below W.heap.size W W') : GwW cb q cs W' := ⟨h.1.below hb, h.2.below hb⟩
def grB (un vn : Nat) (row : List Tu) (waits : List Int) : List UInt8 := natsB [un, vn, row.length] ++ tupsB row ++ natsB [waits.length] ++ intsB waits
theorem rdT_frame {S : List Nat} {w w' : World} {A : Option Addr} {row : List Tu} (h : Tt.RdT w A row) (hF : Frame S w w') (hn : ∀ a, A = some a → a.block ∉ S) : Tt.RdT w' A row := hF.rd h hn
set_option maxRecDepth 100000 in
set_option maxHeartbeats 4000000 in
theorem swrite_gr (q qb un vn : Nat) (row : List Tu) (waits : List Int) (R Wa : Option Addr) (rc wc : Nat) (T : Int) (w : World) (h : GrAt w q un vn row waits R Wa rc wc T) (hq : Qu w qb none 0 0 []) (hqb : qb ≠ q) (hu : un < 18446744073709551616 ∧ vn < 18446744073709551616) (hl : row.length ≤ 10000) (hw : waits.length ≤ 15) (hok : Tt.okT row) (hwr : ∀ x ∈ waits, -9223372036854775808 ≤ x ∧ x ≤ 9223372036854775807) :
  Calls Tryz.prog 308 #[.agg #[.pointer (some ⟨q, 0, none⟩)], .pointer (some ⟨qb, 0, none⟩)] w fun e w' => e = .returned (.tuple #[]) ∧ ∃ W A len cap, Below w.heap.size w W ∧ QuI W w' qb none A len cap (grB un vn row waits) := by
 have hba : Below w.heap.size w (w.alloc (.cells #[.pointer (some ⟨q, 0, none⟩)] 124)) := (Below.refl _ _).alloc (Nat.le_refl _) _
 have a1 := At.new w #[.pointer (some ⟨q, 0, none⟩)] 124
 have f1 := a1.one
 have l1 := a1.lt
 have HQ0 := Lib.hid hq
 have HQB := Lib.hid hqb
 have HU := Lib.hid hu
 have HLW := Lib.hid (And.intro hl hw)
 have HOK := Lib.hid hok
 have HWR := Lib.hid hwr
 have HROW := Lib.hid fun W (hb : Below w.heap.size w W) => growsr_any q un vn T row waits R Wa rc wc W (h.below hb) (by omega) (by omega)
 have haq := h.box
 have HCF := Lib.hid fun W (hb : At W q #[.int .u64 (un : Int), .int .u64 (vn : Int), .slice R row.length rc, .slice Wa waits.length wc, .int .u64 T] 173) => gpart_any q un vn _ _ _ W hb
 have HCB : Hid (qb < w.heap.size) := hq.at'.lt
 obtain ⟨n0, hn0⟩ : ∃ n0, waits.length = n0 := ⟨_, rfl⟩
 obtain ⟨n1, hn1⟩ : ∃ n1, row.length = n1 := ⟨_, rfl⟩
 have HN := Lib.hid (And.intro hn0 hn1)
 have HAQ := Lib.hid haq
 unfold GrowR' at HROW
 rw [hn0, hn1] at HCF HROW HAQ
 have hl1 : n1 ≤ 10000 := by omega
 have hl0 : n0 ≤ 15 := by omega
 clear h haq hq hqb hu hl hw hok hwr hn0 hn1
 go_enter Tryz.func308, Tryz.ntmps308
 go_wp2_with fail
 obtain ⟨W1, hW1⟩ : ∃ W, w.alloc (.cells #[.pointer (some ⟨q, 0, none⟩)] 124) = W := ⟨_, rfl⟩
 obtain ⟨cb, hcb⟩ : ∃ r, w.heap.size = r := ⟨_, rfl⟩
 have HCBE : Hid (w.heap.size = cb) := hcb
 rw [hW1] at hba a1
 rw [hcb] at a1
 simp only [hW1, hcb]
 have HB1 := Lib.hid hba
 have HA1 := Lib.hid a1
 clear hW1 hcb f1 l1 hba a1
 refine (HROW.out W1 HB1.out).mono ?_
 rintro e w5 ⟨⟨A1, c1, A2, c2, rfl, ho1, ho2⟩, hb⟩
 have HB5 := Lib.hid (keep1 HB1.out hb)
 have a6 := HA1.out.below hb
 have HA5 := Lib.hid (HA1.out.below hb)
 have HO5 : Hid (Tt.RdT w5 A1 row ∧ RdI w5 A2 waits ∧ (∀ a, A1 = some a → w.heap.size ≤ a.block ∧ a.block < w5.heap.size) ∧ (∀ a, A2 = some a → w.heap.size ≤ a.block ∧ a.block < w5.heap.size)) :=
  ⟨ho1.rd, ho2.rd, fun a ha => by have := ho1.base_le a ha; have := HB1.out.size; omega, fun a ha => by have := ho2.base_le a ha; have := HB1.out.size; omega⟩
 clear hb ho1 ho2 HROW HA1
 go_wp2
 have hc0 : ∀ W : World, (Instr.field 25 (.agg #[.int .u64 (un : Int), .int .u64 (vn : Int)]) 0).run Tryz.prog W = .ok (.int .u64 (un : Int)) W := fun W => by kernel_rfl
 have hc1 : ∀ W : World, (Instr.field 25 (.agg #[.int .u64 (un : Int), .int .u64 (vn : Int)]) 1).run Tryz.prog W = .ok (.int .u64 (vn : Int)) W := fun W => by kernel_rfl
 have hn1w : IntKind.u64.wrap (n1 : Int) = n1 := by simp only [IntKind.wrap_u64]; omega
 have hn0w : IntKind.u64.wrap (n0 : Int) = n0 := by simp only [IntKind.wrap_u64]; omega
 have hbd : Below w5.heap.size w5 w5.drew := (Below.refl _ _).drew
 obtain ⟨W6, hW6⟩ : ∃ W, w5.drew = W := ⟨_, rfl⟩
 rw [hW6] at hbd
 have hK6 : GwW cb q #[.int .u64 (un : Int), .int .u64 (vn : Int), .slice R n1 rc, .slice Wa n0 wc, .int .u64 T] W6 := ⟨a6.below hbd, (HAQ.out.below HB5.out).below hbd⟩
 have HB56 := Lib.hid hbd
 haveI hne : Nonempty (Held (GwW cb q #[.int .u64 (un : Int), .int .u64 (vn : Int), .slice R n1 rc, .slice Wa n0 wc, .int .u64 T])) := ⟨⟨W6, hK6⟩⟩
 have hfar1 := fun v : Held (GwW cb q #[.int .u64 (un : Int), .int .u64 (vn : Int), .slice R n1 rc, .slice Wa n0 wc, .int .u64 T]) => v.held.at.1.one
 refine wp_region_noPanic ?_
 refine wp_region_held_drew (S := HeldS (GwW cb q #[.int .u64 (un : Int), .int .u64 (vn : Int), .slice R n1 rc, .slice Wa n0 wc, .int .u64 T])) (by kernel_rfl) (by rw [hW6]; exact HeldS.mk' hK6) (fun hHeld => ?_)
 rw [hW6] at hHeld ⊢
 have HK6 := Lib.hid hK6
 clear hW6 hK6 hbd a6
 refine wpAnyH_run0 [true, true, true, false, false, true, true, false, false, true, true, true] 6 (by kernel_rfl) (by kernel_rfl) (fun _ _ _ _ h => h) (by kernel_rfl) hHeld ?_
 simp only [runOps_true, runOps_false, runOps_nil]
 repeat (first | go_big_quiet_skip | (go_big_quiet_want; go_big_quiet_op; go_big_quiet_on))
 refine wpQuiet_nil ?_
 clear hfar1
 refine wpAnyH_ready (rs := [3]) (by kernel_rfl) (by simp) ?_
 refine AllReadyH.cons rfl (fun K hK => ?_) AllReadyH.nil
 go_simp
 go_wp2_with (go_at_call 311; refine (HCF.out W6 HK6.out.2).mono ?_; rintro e w7 ⟨rfl, hb⟩)
 refine hK.out _ _ ?_ (fun hHeld => ?_)
 clear hK K
 ·exact HeldS.mk' (HK6.out.below hb)
 have HB57 := Lib.hid (keep1 HB56.out hb)
 have HK7 := Lib.hid (HK6.out.below hb)
 clear hb HK6 HB56
 refine wpAnyH_run0 [false, false, false, false, true] 4 (by kernel_rfl) (by kernel_rfl) (fun _ _ _ _ h => h) (by kernel_rfl) hHeld ?_
 simp only [runOps_true, runOps_false, runOps_nil]
 repeat (first | go_big_quiet_skip | (go_big_quiet_want; go_big_quiet_op; go_big_quiet_on))
 refine wpQuiet_nil ?_
 refine wpAnyH_ready (rs := [7]) (by kernel_rfl) (by simp) ?_
 refine AllReadyH.cons rfl (fun K hK => ?_) AllReadyH.nil
 go_simp
 go_wp2_with (go_at_call 311; refine (HCF.out w7 HK7.out.2).mono ?_; rintro e w8 ⟨rfl, hb⟩)
 refine hK.out _ _ ?_ (fun hHeld => ?_)
 clear hK K
 ·exact HeldS.mk' (HK7.out.below hb)
 have HB58 := Lib.hid (keep1 HB57.out hb)
 have HK8 := Lib.hid (HK7.out.below hb)
 clear hb HK7 HB57
 refine wpAnyH_run0 [false, false, false, false, false, false, false, false, true] 2 (by kernel_rfl) (by kernel_rfl) (fun _ _ _ _ h => h) (by kernel_rfl) hHeld ?_
 simp only [runOps_true, runOps_false, runOps_nil]
 repeat (first | go_big_quiet_skip | (go_big_quiet_want; go_big_quiet_op; go_big_quiet_on))
 refine wpQuiet_nil ?_
 clear hc0 hc1
 have hba : Below w8.heap.size w8 (w8.alloc (.cells #[.int .u64 (un : Int), .int .u64 (vn : Int), .int .u64 (n1 : Int)] 23)) := (Below.refl _ _).alloc (Nat.le_refl _) _
 have HQ5 := Lib.hid (QuI.start (Qu.below HQ0.out HB5.out))
 have H6 := Lib.hid ((HQ5.out.below HB58.out).below hba)
 have HRU := Lib.hid (rdU_list w8 [un, vn, n1] #[.int .u64 (un : Int), .int .u64 (vn : Int), .int .u64 (n1 : Int)] w8.heap.size rfl rfl)
 have HFR := Lib.hid (QuB.fresh (HQ5.out.below HB58.out).qu w8.heap.size (Nat.le_refl _))
 have hK9 : GwW cb q #[.int .u64 (un : Int), .int .u64 (vn : Int), .slice R n1 rc, .slice Wa n0 wc, .int .u64 T] (w8.alloc (.cells #[.int .u64 (un : Int), .int .u64 (vn : Int), .int .u64 (n1 : Int)] 23)) := HK8.out.below hba
 have HK9 := Lib.hid hK9
 have HCQ : Hid (cb ≠ qb) := fun e => by have := HCB.out; have := HCBE.out; omega
 clear hba
 refine wpAnyH_ready (rs := [12]) (by kernel_rfl) (by simp) ?_
 refine AllReadyH.cons rfl (fun K hK => ?_) (AllReadyH.nil)
 go_simp
 go_wp2
 refine hK.out _ _ (HeldS.mk' hK9) (fun hHeld => ?_)
 clear hK K hK9
 refine wpAnyH_ready (rs := [13]) (by kernel_rfl) (by simp) ?_
 refine AllReadyH.cons rfl (fun K hK => ?_) AllReadyH.nil
 go_simp
 go_wp2_with (go_at_call 96; refine (qnat_any qb none 0 0 [] (some ⟨w8.heap.size, 0, none⟩) 3 3 [un, vn, n1] _ H6.out.qu rfl (by omega) (by omega) HRU.out (fun u hu => by have := HU.out; simp only [List.mem_cons, List.not_mem_nil, or_false] at hu; omega) HFR.out).mono ?_; rintro e w9 ⟨rfl, A7, len7, cap7, hQ⟩)
 refine hK.out _ _ ?_ (fun hHeld => ?_)
 clear hK K
 ·exact HeldS.mk' ⟨hQ.fr.at HK9.out.1 (by simp only [blk, List.mem_cons, List.not_mem_nil, or_false]; exact HCQ.out), hQ.fr.at HK9.out.2 (by simp only [blk, List.mem_cons, List.not_mem_nil, or_false]; exact fun e => HQB.out e.symm)⟩
 refine wpAnyH_done (by kernel_rfl) ?_ _
 refine NoPanic.normal ?_
 clear hne hHeld HRU HFR HK9 HK8
 have h7 := H6.out.trans hQ
 rw [List.nil_append] at h7
 have H7 : Hid (QuI w5 w9 qb none A7 len7 cap7 (natsB [un, vn, n1] ++ tupsB (row.take 0))) := by rw [List.take_zero, tupsB_nil, List.append_nil]; exact h7
 have HTL := Lib.hid (tupsB_len HOK.out)
 clear hQ H6 HQ5 h7
 go_wp2
 go_loopw [7, 30] (fun _ i wr => ∃ k : Nat, k ≤ n1 ∧ i = .int .i64 k ∧ ∃ A len cap, len ≤ 40 + 30 * k ∧ Hid (QuI w5 wr qb none A len cap (natsB [un, vn, n1] ++ tupsB (row.take k)))) (fun _ i _ => n1 - (intOf i).toNat)
 case atStart => exact ⟨0, by omega, rfl, A7, len7, cap7, by have h1 := H7.out.qu.len; have h2 := natsB_len (l := [un, vn, n1]) fun u hu => by { have := HU.out; simp only [List.mem_cons, List.not_mem_nil, or_false] at hu; omega }; rw [List.take_zero, tupsB_nil, List.append_nil] at h1; simp at h2; omega, H7⟩
 case round =>
  obtain ⟨k, hk, rfl, A, len, cap, hlen, H⟩ := hrel
  clear H7
  by_cases hlt : k < n1
  ·have hkl : k < row.length := by have := HN.out; omega
   have HTK := Lib.hid (tupsB_take hkl)
   have HX := Lib.hid (HOK.out _ (List.getElem_mem hkl))
   obtain ⟨g, o, rfl, hg, d1, d2, d3⟩ := (rdT_frame HO5.out.1 H.out.fr (fun a ha hm => by
    have h1 := HO5.out.2.2.1 a ha
    have h2 := HCB.out
    simp only [blk, List.mem_singleton] at hm
    omega)).at k hkl
   obtain ⟨⟨x, s, l⟩, hx⟩ : ∃ z, row[k]'hkl = z := ⟨_, rfl⟩
   rw [hx] at d1 d2 d3 HTK HX
   dsimp only at d1 d2 d3 HX
   obtain ⟨sn, rfl⟩ : ∃ n : Nat, s = n := ⟨s.toNat, by have := HX.out; omega⟩
   obtain ⟨ln, rfl⟩ : ∃ n : Nat, l = n := ⟨l.toNat, by have := HX.out; omega⟩
   have HTB : Hid (tupB (x, (sn : Int), (ln : Int)) = intsB [x] ++ natsB [sn, ln]) := by show _ = _; simp [tupB, intsB, natsB]
   have k0 : (0 : Int) ≤ k := by omega
   have k1 : (k : Int) < n1 := by omega
   have k2 : IntKind.i64.wrap ((k : Int) + 1) = ((k + 1 : Nat) : Int) := by simp only [IntKind.wrap_i64]; omega
   clear hx hkl
   have hbp : Below wr.heap.size wr (wr.alloc (.cells #[.int .i64 x, .int .u64 (sn : Int), .int .u64 (ln : Int)] 230)) := (Below.refl _ _).alloc (Nat.le_refl _) _
   have aP := At.new wr #[.int .i64 x, .int .u64 (sn : Int), .int .u64 (ln : Int)] 230
   have H1 := Lib.hid (H.out.below hbp)
   have HPN : Hid (wr.heap.size ∉ qb :: blk A) := fun hm => by
    rcases List.mem_cons.1 hm with h1 | h1
    ·have := H.out.qu.at'.lt; omega
    ·have := (OwnY.blk_le H.out.qu.own _ h1).2; omega
   have HAP := Lib.hid aP
   have fP := aP.three
   have lP := aP.lt
   clear hbp H
   go_wp2_with fail
   obtain ⟨W1', hW1⟩ : ∃ W, wr.alloc (.cells #[.int .i64 x, .int .u64 (sn : Int), .int .u64 (ln : Int)] 230) = W := ⟨_, rfl⟩
   obtain ⟨pb, hpb⟩ : ∃ r, wr.heap.size = r := ⟨_, rfl⟩
   have hpz : W1'.heap.size = pb + 1 := by rw [← hW1, ← hpb]; simp
   rw [hW1] at H1 HAP
   rw [hpb] at HAP HPN
   simp only [hW1, hpb]
   clear hW1 hpb aP fP lP d1 d2 d3 hg
   have hbx : Below W1'.heap.size W1' (W1'.alloc (.cells #[.int .i64 x] 2)) := (Below.refl _ _).alloc (Nat.le_refl _) _
   have H2 := Lib.hid (H1.out.below hbx)
   have HAP2 := Lib.hid (HAP.out.below hbx)
   have HRI := Lib.hid (rdI_list W1' [x] #[.int .i64 x] (pb + 1) hpz.symm rfl)
   have HFR := Lib.hid (QuB.fresh H1.out.qu (pb + 1) (by omega))
   clear hbx H1 HAP hpz
   refine (qint_any qb A len cap _ (some ⟨pb + 1, 0, none⟩) 1 1 [x] _ H2.out.qu rfl (by omega) (by omega) HRI.out (fun u hu => by rw [List.mem_singleton] at hu; subst hu; have := HX.out.1; omega) HFR.out).mono ?_
   rintro e w3 ⟨rfl, A3, len3, cap3, hQ⟩
   have H3 := Lib.hid (H2.out.trans hQ)
   have HAP3 := Lib.hid (hQ.fr.at HAP2.out HPN.out)
   have HL3 : Hid (len3 ≤ 40 + 30 * k + 10) := by
    have h1 := H3.out.qu.len
    have h2 := H2.out.qu.len
    have h3 := intsB_len (l := [x]) fun u hu => by rw [List.mem_singleton] at hu; subst hu; have := HX.out.1; omega
    rw [List.length_append, h2] at h1
    show _ ≤ _
    simp at h3
    omega
   have f3 := HAP3.out.three
   have l3 := HAP3.out.lt
   clear hQ H2 HAP2 HRI HFR HPN
   go_wp2_with fail
   have hbx : Below w3.heap.size w3 (w3.alloc (.cells #[.int .u64 (sn : Int), .int .u64 (ln : Int)] 23)) := (Below.refl _ _).alloc (Nat.le_refl _) _
   have H4 := Lib.hid (H3.out.below hbx)
   have HRU := Lib.hid (rdU_list w3 [sn, ln] #[.int .u64 (sn : Int), .int .u64 (ln : Int)] w3.heap.size rfl rfl)
   have HFR := Lib.hid (QuB.fresh H3.out.qu w3.heap.size (Nat.le_refl _))
   clear hbx f3 l3 HAP3
   refine (qnat_any qb A3 len3 cap3 _ (some ⟨w3.heap.size, 0, none⟩) 2 2 [sn, ln] _ H4.out.qu rfl (by omega) (by have := HL3.out; omega) HRU.out (fun u hu => by simp only [List.mem_cons, List.not_mem_nil, or_false] at hu; have := HX.out; omega) HFR.out).mono ?_
   rintro e w5' ⟨rfl, A5, len5, cap5, hQ⟩
   have h5 := H4.out.trans hQ
   rw [List.append_assoc, List.append_assoc, ← HTB.out, ← HTK.out] at h5
   have HL5 : Hid (len5 ≤ 40 + 30 * (k + 1)) := by
    have h1 := hQ.qu.len
    have h2 := H4.out.qu.len
    have h3 := natsB_len (l := [sn, ln]) fun u hu => by simp only [List.mem_cons, List.not_mem_nil, or_false] at hu; have := HX.out; omega
    rw [List.length_append, h2] at h1
    have := HL3.out
    show _ ≤ _
    simp at h3
    omega
   have H5 := Lib.hid h5
   clear hQ H3 H4 HRU HFR h5
   go_wp2
   go_roundw
   case rel => exact ⟨k + 1, by omega, by simp, A5, len5, cap5, HL5.out, H5⟩
   case measure => simp [intOf]; omega
  ·obtain rfl : k = n1 := by omega
   have HT : Hid (row.take k = row) := List.take_of_length_le (by have := HN.out; omega)
   rw [HT.out] at H
   have hbx : Below wr.heap.size wr (wr.alloc (.cells #[.int .u64 (n0 : Int)] 23)) := (Below.refl _ _).alloc (Nat.le_refl _) _
   have H1 := Lib.hid (H.out.below hbx)
   have HRU := Lib.hid (rdU_list wr [n0] #[.int .u64 (n0 : Int)] wr.heap.size rfl rfl)
   have HFR := Lib.hid (QuB.fresh H.out.qu wr.heap.size (Nat.le_refl _))
   clear hbx H
   go_wp2_with fail
   refine (qnat_any qb A len cap _ (some ⟨wr.heap.size, 0, none⟩) 1 1 [n0] _ H1.out.qu rfl (by omega) (by omega) HRU.out (fun u hu => by simp only [List.mem_cons, List.not_mem_nil, or_false] at hu; omega) HFR.out).mono ?_
   rintro e w3 ⟨rfl, A3, len3, cap3, hQ⟩
   have H3 := Lib.hid (H1.out.trans hQ)
   have HL3 : Hid (len3 ≤ 40 + 30 * k + 10) := by
    have h1 := hQ.qu.len
    have h2 := H1.out.qu.len
    have h3 := natsB_len (l := [n0]) fun u hu => by rw [List.mem_singleton] at hu; omega
    rw [List.length_append, h2] at h1
    show _ ≤ _
    simp at h3
    omega
   clear hQ H1 HRU HFR
   have HR2 : Hid (RdI w3 A2 waits) := H3.out.fr.rd HO5.out.2.1 fun a ha hm => by
    have h1 := HO5.out.2.2.2 a ha
    have h2 := HCB.out
    simp only [blk, List.mem_singleton] at hm
    omega
   have HN2 : Hid (∀ g, A2 = some g → g.block ∉ qb :: blk A3) := fun g hg => H3.out.notin (HO5.out.2.2.2 g hg).2 fun hm => by
    have h1 := HO5.out.2.2.2 g hg
    have h2 := HCB.out
    simp only [blk, List.mem_singleton] at hm
    omega
   go_wp2_with fail
   refine (qint_any qb A3 len3 cap3 _ A2 n0 c2 waits _ H3.out.qu HN.out.1 (by omega) (by have := HL3.out; omega) HR2.out HWR.out HN2.out).mono ?_
   rintro e w4 ⟨rfl, A4, len4, cap4, hQ⟩
   have HFIN : Hid (QuI w5 w4 qb none A4 len4 cap4 (grB un vn row waits)) := by
    have := H3.out.trans hQ
    unfold grB
    rw [HN.out.1, HN.out.2]
    exact this
   clear hQ H3 HR2 HN2
   go_wp2
   exact bodyPost_end (results_none rfl _ _ _) rfl ⟨rfl, w5, A4, len4, cap4, HB5.out, HFIN.out⟩
end Go.Proofs.YtlbnlmhcpephbaaGreatDoor
