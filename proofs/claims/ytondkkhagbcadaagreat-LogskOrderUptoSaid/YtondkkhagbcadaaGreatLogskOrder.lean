/- The walk of the statement LogskOrder, of at most 1048576 values. -/
import Derived.Test.YtondkkhagbcadaaGreatProg
import Derived.Test.YtondkkhagbcadaaGreatOpen
import Derived.Test.YtondkkhagbcadaaGreatLsBuild
import Derived.Test.YtondkkhagbcadaaGreatCase14
import Derived.Test.YtondkkhagbcadaaGreatOrdAll
namespace Go.Proofs.YtondkkhagbcadaaGreat
open Go.RowKit

/-- The box of the case whose values are added, and its row. -/
structure OrdI (w2 W : World) (db : Nat) (u v z m : Int) (A : Option Addr) (len cap : Nat) (l : List (Int × Int)) : Prop where
  at' : At W db #[.int .u64 u, .int .u64 v, .int .i64 z, .int .i64 m, .slice A len cap] 27
  own : OwnV (db + 1) W A cap l
  len : l.length = len
  bl : Below db w2 W
section
variable {w2 W W' : World} {db len len' cap cap' vb : Nat} {u v z m : Int} {A A' : Option Addr} {l l' : List (Int × Int)}
theorem OrdI.below (h : OrdI w2 W db u v z m A len cap l) (hb : Below W.heap.size W W') : OrdI w2 W' db u v z m A len cap l :=
  ⟨h.at'.below hb, h.own.below hb, h.len, h.bl.trans (hb.mono (Nat.le_of_lt h.at'.lt))⟩
theorem OrdI.app (h : OrdI w2 W db u v z m A len cap l) (hd : w2.heap.size ≤ db) (ho : OwnV (db + 1) W' A' cap' l') (hl : l'.length = len') (hF : Frame (blk A) W W') :
    OrdI w2 (W'.setCell ⟨db, 4, none⟩ (.slice A' len' cap')) db u v z m A' len' cap' l' := by
  have hn : db ∉ blk A := fun hm => by have := (h.own.blk_le db hm).1; omega
  have ha := hF.at h.at' hn
  have hS := Frame.set [db] W' db 4 (.slice A' len' cap') (by simp)
  have hbW : Below db w2 W' := hF.below' (w := W) h.bl (Nat.le_of_lt h.at'.lt) fun k hk => ⟨by have := (h.own.blk_le k hk).1; omega, (h.own.blk_le k hk).2⟩
  exact ⟨ha.set_any 4 _ rfl, ho.frame hS fun k hk hm => by have := (ho.blk_le k hk).1; simp only [List.mem_singleton] at hm; omega, hl, hbW.setCell (Nat.le_refl _) _⟩
theorem OrdI.frame {T : List Nat} (h : OrdI w2 W db u v z m A len cap l) (hF : Frame T W W') (h1 : db ∉ T) (h2 : ∀ k ∈ blk A, k ∉ T) (h3 : ∀ k ∈ T, db ≤ k) : OrdI w2 W' db u v z m A len cap l :=
  ⟨hF.at h.at' h1, h.own.frame hF h2, h.len, hF.below h.bl (Nat.le_of_lt h.at'.lt) h3⟩
/-- Behind the first one of two values, with the value's box at 1. -/
theorem ord_mid {x : Int} (y : Int) (h : OrdI w2 W db u v z m A len cap l) (hd : w2.heap.size = db) (ho : OwnV (db + 1) W' A' cap' (l ++ [(x, y - 1)])) (hF : Frame (blk A) W W') (hB : ∀ k ∈ blk A', k ∈ blk A ∨ W.heap.size ≤ k) (hv : db < vb ∧ ∀ k ∈ blk A, k < vb) (hlt : vb < W'.heap.size) (hlt' : vb < W.heap.size) :
    let X := (W'.setCell ⟨db, 4, none⟩ (.slice A' (len + 1) cap')).setCell ⟨vb, 1, none⟩ (.int .u64 1)
    let Y := X.alloc (.cells #[.int .i64 x, .int .u64 1] 48)
    OrdI w2 Y db u v z m A' (len + 1) cap' (l ++ [(x, y - 1)]) ∧ RdP Y (some ⟨W'.heap.size, 0, none⟩) [(x, 1)] ∧ RdP Y (some ⟨X.heap.size, 0, none⟩) [(x, 1)] ∧ db ∉ blk A' := by
  intro X Y
  have h1 := h.app (Nat.le_of_eq hd) ho (len' := len + 1) (by rw [List.length_append, h.len]; rfl) hF
  have hn : ∀ k ∈ blk A', k ∉ [vb] := fun k hk hm => by
    simp only [List.mem_singleton] at hm
    rcases hB k hk with h2 | h2
    · have := hv.2 k h2; omega
    · omega
  have h2 := h1.frame (T := [vb]) (Frame.set [vb] _ vb 1 (.int .u64 1) (by simp)) (by simp only [List.mem_singleton]; omega) hn (fun k hk => by simp only [List.mem_singleton] at hk; omega)
  have hz : X.heap.size = W'.heap.size := by simp [X, World.setCell]
  have hr := rdV_new X x 1
  refine ⟨h2.below ((Below.refl _ _).alloc (Nat.le_refl _) _), ?_, hr, fun hm => ?_⟩
  · rw [← hz]; exact hr
  · have := (h1.own.blk_le db hm).1; omega
end
/-- What two sketches tell that hold the same values. -/
structure OrdF (w : World) (b o bb oo : Nat) (p0 p1 q0 q1 : Int) (K0 K1 : List (Int × Int)) (n0 n1 : Nat) (L0 L1 : Int) : Prop where
  qb : ∀ W, Below w.heap.size w W → Calls Tryz.prog 16 #[.pointer (some ⟨b, 0, none⟩), .agg #[.int .u64 p0, .int .u64 p1]] W fun e w' => e = .returned (.tuple #[.int .i64 q0, .int .i64 q1]) ∧ Below W.heap.size W w'
  qo : ∀ W, Below w.heap.size w W → Calls Tryz.prog 16 #[.pointer (some ⟨o, 0, none⟩), .agg #[.int .u64 p0, .int .u64 p1]] W fun e w' => e = .returned (.tuple #[.int .i64 q0, .int .i64 q1]) ∧ Below W.heap.size W w'
  nb : ∀ W, Below w.heap.size w W → Calls Tryz.prog 24 #[.pointer (some ⟨b, 0, none⟩)] W fun e w' => e = .returned (.pointer (some ⟨bb, 0, none⟩)) ∧ W = w'
  no : ∀ W, Below w.heap.size w W → Calls Tryz.prog 24 #[.pointer (some ⟨o, 0, none⟩)] W fun e w' => e = .returned (.pointer (some ⟨oo, 0, none⟩)) ∧ W = w'
  rb : ∀ W, Below w.heap.size w W → Calls Tryz.prog 25 #[.pointer (some ⟨bb, 0, none⟩)] W fun e w' => ∃ A0 c0 A1 c1, e = .returned (.tuple #[.slice A0 n0 c0, .slice A1 n1 c1]) ∧ RdP w' A0 K0 ∧ RdP w' A1 K1 ∧ Below W.heap.size W w'
  ro : ∀ W, Below w.heap.size w W → Calls Tryz.prog 25 #[.pointer (some ⟨oo, 0, none⟩)] W fun e w' => ∃ A0 c0 A1 c1, e = .returned (.tuple #[.slice A0 n0 c0, .slice A1 n1 c1]) ∧ RdP w' A0 K0 ∧ RdP w' A1 K1 ∧ Below W.heap.size W w'
  lb : ∀ W, Below w.heap.size w W → Calls Tryz.prog 26 #[.pointer (some ⟨bb, 0, none⟩)] W fun e w' => e = .returned (.tuple #[.int .u64 L0, .int .u64 L1]) ∧ Below W.heap.size W w'
  lo : ∀ W, Below w.heap.size w W → Calls Tryz.prog 26 #[.pointer (some ⟨oo, 0, none⟩)] W fun e w' => e = .returned (.tuple #[.int .u64 L0, .int .u64 L1]) ∧ Below W.heap.size W w'
  s0 : ∀ A B c1 c2 W, RdP W A K0 → RdP W B K0 → Calls Tryz.prog 27 #[.slice A n0 c1, .slice B n0 c2] W fun e W' => e = .returned (.bool true) ∧ Below W.heap.size W W'
  s1 : ∀ A B c1 c2 W, RdP W A K1 → RdP W B K1 → Calls Tryz.prog 27 #[.slice A n1 c1, .slice B n1 c2] W fun e W' => e = .returned (.bool true) ∧ Below W.heap.size W W'
theorem ord_facts {w : World} {b o : Nat} {S T : List Nat} {part : Nat → Int} {rep stand : Int → Int} {u v : Int} {s : Bool} {most p0 p1 : Int} {c d : List (Int × Int)} (h : LsV w b S part rep u v s most c) (k : LsV w o T part rep u v s most d) (hp : PS part rep stand) (hs : SameV c d) (hc : VOk c) (hd : VOk d) (hl : c.length ≤ 1048576)
    (h1 : 0 ≤ p0) (h2 : p0 < 18446744073709551616) (h3 : 0 ≤ p1) (h4 : p1 < 18446744073709551616) :
    ∃ bb oo q0 q1 K0 K1 n0 n1 L0 L1, OrdF w b o bb oo p0 p1 q0 q1 K0 K1 n0 n1 L0 L1 := by
  have e1 := hs.row hc hd part true
  have e2 := hs.row hc hd part false
  have eq := hs.quant hc hd part stand s most p0 p1
  have hk0 := h
  have hk1 := k
  obtain ⟨bb, B, rfl, h⟩ := h
  obtain ⟨oo, O, rfl, k⟩ := k
  have hsm : ∀ (bl : Bool) (A B : Option Addr) (c1 c2 : Nat) W, RdP W A (keptP s most (rowV part bl c)) → RdP W B (keptP s most (rowV part bl c)) → Calls Tryz.prog 27 #[.slice A (keptP s most (rowV part bl c)).length c1, .slice B (keptP s most (rowV part bl c)).length c2] W fun e W' => e = .returned (.bool true) ∧ Below W.heap.size W W' := fun bl A B c1 c2 W k1 k2 =>
    (same_any A B (keptP s most (rowV part bl c)).length c1 (keptP s most (rowV part bl c)).length c2 _ _ W rfl rfl (by have := rowV_len (part := part) (below := bl) (l := c); have := keptP_len' (s := s) (most := most) (ps := rowV part bl c); omega) (by have := rowV_len (part := part) (below := bl) (l := c); have := keptP_len' (s := s) (most := most) (ps := rowV part bl c); omega) k1 k2).mono fun e W' h => ⟨by rw [h.1]; simp, h.2⟩
  refine ⟨bb, oo, (quantL part stand s most c (eLow c) (eHigh c) p0 p1).1, (quantL part stand s most c (eLow c) (eHigh c) p0 p1).2, keptP s most (rowV part true c), keptP s most (rowV part false c), (keptP s most (rowV part true c)).length, (keptP s most (rowV part false c)).length, negV c - sumP (keptP s most (rowV part true c)), posV c - sumP (keptP s most (rowV part false c)), ?_⟩
  refine ⟨fun W hW => lsquant_k b _ part rep stand u v s most c _ _ p0 p1 W (hk0.below hW) hp hc h1 h2 h3 h4, fun W hW => ?_, fun W hW => lsbins_at b _ _ _ _ _ _ _ W (h.below hW).at', fun W hW => lsbins_at o _ _ _ _ _ _ _ W (k.below hW).at', fun W hW => brows_v bb B false part rep s most c W (h.bn.below hW), fun W hW => ?_, fun W hW => blost_v bb B false part rep s most c W (h.bn.below hW), fun W hW => ?_, hsm true, hsm false⟩
  · rw [eq]; exact lsquant_k o _ part rep stand u v s most d _ _ p0 p1 W (hk1.below hW) hp hd h1 h2 h3 h4
  · rw [e1, e2]; exact brows_v oo O false part rep s most d W (k.bn.below hW)
  · rw [e1, e2, hs.neg, hs.pos]; exact blost_v oo O false part rep s most d W (k.bn.below hW)
set_option maxRecDepth 100000 in
set_option maxHeartbeats 4000000 in
theorem logskOrder_walk (w : World) (cu cv cs cm : Int) (bdcu : 0 ≤ cu ∧ cu < 18446744073709551616) (bdcv : 0 ≤ cv ∧ cv < 18446744073709551616) (bdcs : -9223372036854775808 ≤ cs ∧ cs ≤ 9223372036854775807) (bdcm : -9223372036854775808 ≤ cm ∧ cm ≤ 9223372036854775807) (Ac : Option Addr) (cc : Nat) (c : List (Int × Int)) (rc : Rd w Ac (c.flatMap fun x => [.int .i64 x.1, .int .u64 x.2])) (bdc : ∀ x ∈ c, (-9223372036854775808 ≤ x.1 ∧ x.1 ≤ 9223372036854775807) ∧ (0 ≤ x.2 ∧ x.2 < 18446744073709551616)) (lc : c.length ≤ 9223372036854775807) (h20 : c.length ≤ 1048576) (aa : Int) (bdaa : -9223372036854775808 ≤ aa ∧ aa ≤ 9223372036854775807) (p0 p1 : Int) (bdp0 : 0 ≤ p0 ∧ p0 < 18446744073709551616) (bdp1 : 0 ≤ p1 ∧ p1 < 18446744073709551616) :
    Calls Tryz.prog 7 #[.agg #[.int .u64 cu, .int .u64 cv, .int .i64 cs, .int .i64 cm, .slice Ac c.length cc], .int .i64 aa, .agg #[.int .u64 p0, .int .u64 p1]] w fun e w' => e = .returned (.bool true) ∧ Below w.heap.size w w' := by
  have HPQ := Lib.hid (And.intro bdp0 bdp1)
  have HAA := Lib.hid bdaa
  clear bdp0 bdp1 bdaa
  have HC0 : Hid (okP c) := bdc
  have HRC0 : Hid (RdP w Ac c) := rc
  obtain ⟨n, hn⟩ : ∃ n, c.length = n := ⟨_, rfl⟩
  have HN := Lib.hid hn
  have HUV := Lib.hid (And.intro bdcu bdcv)
  rw [hn]
  have n20 : n ≤ 1048576 := by omega
  clear h20
  have hba : Below w.heap.size w ((w.alloc (.cells #[.int .u64 cu, .int .u64 cv, .int .i64 cs, .int .i64 cm, .slice Ac n cc] 27)).alloc (.cells #[.int .u64 p0, .int .u64 p1] 24)) := (((Below.refl _ _).alloc (by first | omega | (simp; done) | (simp; omega)) _).alloc (by first | omega | (simp; done) | (simp; omega)) _)
  have am := ((At.new' w #[.int .u64 cu, .int .u64 cv, .int .i64 cs, .int .i64 cm, .slice Ac n cc] 27 (b := w.heap.size) (by simp)).alloc (.cells #[.int .u64 p0, .int .u64 p1] 24))
  have ap := (At.new' (w.alloc (.cells #[.int .u64 cu, .int .u64 cv, .int .i64 cs, .int .i64 cm, .slice Ac n cc] 27)) #[.int .u64 p0, .int .u64 p1] 24 (b := w.heap.size + 1) (by simp))
  clear bdcu bdcv bdcs bdcm rc bdc lc hn
  go_enter Tryz.func7, Tryz.ntmps7
  go_wp2_with fail
  obtain ⟨W1, hW1⟩ : ∃ W, ((w.alloc (.cells #[.int .u64 cu, .int .u64 cv, .int .i64 cs, .int .i64 cm, .slice Ac n cc] 27)).alloc (.cells #[.int .u64 p0, .int .u64 p1] 24)) = W := ⟨_, rfl⟩
  rw [hW1] at hba am ap
  simp only [hW1]
  clear hW1
  refine (alive_any W1).mono ?_
  rintro e w2 ⟨rfl, hb⟩
  have HB2 := Lib.hid (keep1 hba hb)
  have HAM := Lib.hid (am.below hb)
  have HRp := Lib.hid (ap.below hb)
  have f2 := HAM.out.five
  have l2 := HAM.out.lt
  clear hba hb am ap
  by_cases h1 : aa < 0
  · have e1 : decide (aa < 0) = true := decide_eq_true h1
    go_wp2
    go_ret
    exact ⟨rfl, HB2.out⟩
  have e1 : decide (aa < 0) = false := decide_eq_false h1
  by_cases h2 : (n : Int) < aa
  · have e2 : decide ((n : Int) < aa) = true := decide_eq_true h2
    go_wp2
    go_ret
    exact ⟨rfl, HB2.out⟩
  have e2 : decide ((n : Int) < aa) = false := decide_eq_false h2
  obtain ⟨an, rfl⟩ : ∃ k : Nat, aa = (k : Int) := ⟨aa.toNat, by omega⟩
  have HAN : Hid (an ≤ n) := by show _ ≤ _; omega
  have e2' : decide (n < an) = false := decide_eq_false (by have := HAN.out; omega)
  clear h1 h2
  go_wp2
  obtain ⟨W3, hW3⟩ : ∃ W, w2.alloc (.cells #[.int .u64 cu, .int .u64 cv, .int .i64 cs, .int .i64 cm, .slice none 0 0] 27) = W := ⟨_, rfl⟩
  have hd1 : At W3 w2.heap.size #[.int .u64 cu, .int .u64 cv, .int .i64 cs, .int .i64 cm, .slice none 0 0] 27 := by rw [← hW3]; exact At.new' _ _ _ rfl
  have hb3 : Below w2.heap.size w2 W3 := by rw [← hW3]; exact (Below.refl _ _).alloc (Nat.le_refl _) _
  obtain ⟨db, hdb⟩ : ∃ r, w2.heap.size = r := ⟨_, rfl⟩
  rw [hdb] at hd1
  simp only [hdb, hW3]
  clear hW3 e1 e2 e2'
  have HDB := Lib.hid hdb
  have HOK := Lib.hid (rotV_ok (a := an) HC0.out)
  have HS0 : Hid (OrdI w2 W3 db cu cv cs cm none 0 0 (((rotV c an).take 0).flatMap splitV)) := ⟨hd1, OwnV.nil _ _, rfl, by rw [← hdb]; exact hb3⟩
  clear hd1 hb3 hdb f2 l2
  go_loopw [8, 9, 44] (fun _ _ i wr => ∃ k : Nat, ∃ A len cap, k ≤ n ∧ i = .int .i64 k ∧ Hid (OrdI w2 wr db cu cv cs cm A len cap (((rotV c an).take k).flatMap splitV))) (fun _ _ i _ => n - (intOf i).toNat)
  case atStart => exact ⟨0, none, 0, 0, by omega, rfl, HS0⟩
  case round =>
    obtain ⟨k, A, len, cap, hk, rfl, H⟩ := hrel
    clear HS0
    have HB2W : Hid (Below w2.heap.size w2 wr) := by show Below _ _ _; rw [HDB.out]; exact H.out.bl
    have HBW := Lib.hid (keep1 HB2.out HB2W.out)
    by_cases hlt : k < n
    · obtain ⟨j, hj, hjj⟩ : ∃ j : Nat, j < n ∧ (j = n - 1 - k + an ∨ j + n = n - 1 - k + an) := by
        have := HAN.out
        by_cases h : n - 1 - k + an < n
        · exact ⟨n - 1 - k + an, h, .inl rfl⟩
        · exact ⟨n - 1 - k + an - n, by omega, .inr (by omega)⟩
      have hmod : ((n : Int) - 1 - k + an) % n = j := by
        have := HAN.out
        rcases hjj with h | h
        · rw [show (n : Int) - 1 - k + an = j by omega]; exact Int.emod_eq_of_lt (by omega) (by omega)
        · rw [show (n : Int) - 1 - k + an = j + n by omega, Int.add_emod_right]; exact Int.emod_eq_of_lt (by omega) (by omega)
      have htm : Int.tmod ((n : Int) - 1 - k + an) n = j := by
        rw [Int.tmod_eq_emod_of_nonneg (by have := HAN.out; omega)]; exact hmod
      have hn0 : ((n : Int) == 0) = false := beq_eq_false_iff_ne.2 (by omega)
      have HGT := Lib.hid (rotV_get HN.out HAN.out hlt hj hjj)
      obtain ⟨g, o', rfl, hg, d1, d2⟩ := (HRC0.out.below HBW.out).at j (by have := HN.out; omega)
      obtain ⟨⟨x, y⟩, hx⟩ : ∃ x, c[j]'(by have := HN.out; omega) = x := ⟨_, rfl⟩
      have HOX := Lib.hid (HC0.out.at j (by have := HN.out; omega))
      have HX : Hid ((rotV c an)[k]? = some (x, y)) := by show _ = _; rw [HGT.out, List.getElem?_eq_getElem (by have := HN.out; omega), hx]
      rw [hx] at d1 d2 HOX
      dsimp only at d1 d2 HOX
      clear hx HGT
      have hc4 := HAM.out.below HB2W.out
      have f4 := hc4.five
      have l4 := hc4.lt
      have han := HAN.out
      have aV := At.new wr #[.int .i64 x, .int .u64 y] 48
      go_wp2
      clear hjj hk
      go_region
      have hb6 : Below wr.heap.size wr ((wr.alloc (.cells #[.int .i64 x, .int .u64 y] 48)).drew) := ((Below.refl _ _).alloc (Nat.le_refl _) _).drew
      have aV6 : At ((wr.alloc (.cells #[.int .i64 x, .int .u64 y] 48)).drew) wr.heap.size #[.int .i64 x, .int .u64 y] 48 := aV.below (Below.refl _ _).drew
      obtain ⟨vb, hvb⟩ : ∃ r, wr.heap.size = r := ⟨_, rfl⟩
      obtain ⟨W6, hW6⟩ : ∃ W, ((wr.alloc (.cells #[.int .i64 x, .int .u64 y] 48)).drew) = W := ⟨_, rfl⟩
      rw [hW6] at hb6 aV6
      have H6 := Lib.hid (H.out.below hb6)
      have HVB : Hid (db < vb ∧ ∀ k ∈ blk A, k < vb) := ⟨by have := H.out.at'.lt; omega, fun k hk => by have := (H.out.own.blk_le k hk).2; omega⟩
      rw [hvb] at aV6
      simp only [hW6, hvb]
      have fV := aV6.two
      have lV := aV6.lt
      have hne1 : ¬ db = vb := by have := HVB.out.1; omega
      have hne2 : ¬ vb = db := by have := HVB.out.1; omega
      have HNA : Hid (db ∉ blk A ∧ vb ∉ blk A) := ⟨fun hm => by have := (H6.out.own.blk_le db hm).1; omega, fun hm => by have := HVB.out.2 vb hm; omega⟩
      have HL : Hid (len ≤ 2 * k) := by
        have h1 := splitV_len ((rotV c an).take k)
        rw [H6.out.len, List.length_take] at h1
        show _ ≤ _
        omega
      have hy := HOX.out.2
      clear aV hmod htm hn0 d1 d2 hc4 f4 l4 hb6 hW6 hvb han hj hg H HB2W
      by_cases h1 : 1 < y
      · have e1 : decide (1 < y) = true := decide_eq_true h1
        have HST : Hid ((((rotV c an).take (k + 1)).flatMap splitV) = ((rotV c an).take k).flatMap splitV ++ [(x, y - 1)] ++ [(x, 1)]) := by
          show _ = _
          rw [splitV_take _ _ _ HX.out, splitV, if_pos h1, List.append_assoc]
          rfl
        have hbe : Below W6.heap.size W6 (W6.alloc (.cells #[.int .i64 x, .int .u64 (y - 1)] 48)) := (Below.refl _ _).alloc (Nat.le_refl _) _
        have H7 := Lib.hid (H6.out.below hbe)
        have aV7 := Lib.hid (aV6.below hbe)
        have HRN := Lib.hid (rdV_new W6 x (y - 1))
        have HZ7 : Hid (db + 1 ≤ (W6.alloc (.cells #[.int .i64 x, .int .u64 (y - 1)] 48)).heap.size) := H7.out.at'.lt
        have f6 := H6.out.at'.five
        have l6 := H6.out.at'.lt
        have hyy : 0 ≤ y - 1 ∧ y - 1 < 18446744073709551616 := by omega
        clear hbe
        go_wp2_with (first | (at_builtin; refine wpList_append_valsF rfl _ _ rfl (db + 1) A cap len (((rotV c an).take k).flatMap splitV) rfl H7.out.len H7.out.own (some ⟨W6.heap.size, 0, none⟩) 1 1 [(x, y - 1)] rfl rfl HRN.out (by have := HL.out; omega) HZ7.out ?_; intro A2 cap2 W8 HO8 hF8 hB8; have f8 := (hF8.at H7.out.at' HNA.out.1).five; have l8 := (hF8.at H7.out.at' HNA.out.1).lt; have aV8 := hF8.at aV7.out HNA.out.2; have fV8 := aV8.two; have lV8 := aV8.lt; have H8 := Lib.hid (ord_mid y H7.out HDB.out HO8.out hF8 hB8 HVB.out aV8.lt aV7.out.lt); clear f6 l6 fV lV) | (at_builtin; refine wpList_append_valsF rfl _ _ rfl (db + 1) A2 cap2 (len + 1) (((rotV c an).take k).flatMap splitV ++ [(x, y - 1)]) rfl H8.out.1.len H8.out.1.own _ 1 1 [(x, 1)] rfl rfl (by first | exact H8.out.2.1 | exact H8.out.2.2.1) (by have := HL.out; omega) H8.out.1.at'.lt ?_; intro A3 cap3 W10 HO10 hF10 hB10; have f10 := (hF10.at H8.out.1.at' H8.out.2.2.2).five; have l10 := (hF10.at H8.out.1.at' H8.out.2.2.2).lt; have H10 := Lib.hid (H8.out.1.app (Nat.le_of_eq HDB.out) HO10.out (len' := len + 1 + 1) (by rw [List.length_append, H8.out.1.len]; rfl) hF10)) | fail)
        rw [← HST.out] at H10
        go_roundw
        case rel => exact ⟨k + 1, A3, len + 1 + 1, cap3, by omega, by simp, H10⟩
        case measure => simp [intOf]; omega
      · have e1 : decide (1 < y) = false := decide_eq_false h1
        have HST : Hid ((((rotV c an).take (k + 1)).flatMap splitV) = ((rotV c an).take k).flatMap splitV ++ [(x, y)]) := by
          show _ = _
          rw [splitV_take _ _ _ HX.out, splitV, if_neg h1]
        have hbe : Below W6.heap.size W6 (W6.alloc (.cells #[.int .i64 x, .int .u64 y] 48)) := (Below.refl _ _).alloc (Nat.le_refl _) _
        have H7 := Lib.hid (H6.out.below hbe)
        have HRN := Lib.hid (rdV_new W6 x y)
        have HZ7 : Hid (db + 1 ≤ (W6.alloc (.cells #[.int .i64 x, .int .u64 y] 48)).heap.size) := H7.out.at'.lt
        have f6 := H6.out.at'.five
        have l6 := H6.out.at'.lt
        clear hbe
        go_wp2_with (first | (at_builtin; refine wpList_append_valsF rfl _ _ rfl (db + 1) A cap len (((rotV c an).take k).flatMap splitV) rfl H7.out.len H7.out.own (some ⟨W6.heap.size, 0, none⟩) 1 1 [(x, y)] rfl rfl HRN.out (by have := HL.out; omega) HZ7.out ?_; intro A2 cap2 W8 HO8 hF8 hB8; have f8 := (hF8.at H7.out.at' HNA.out.1).five; have l8 := (hF8.at H7.out.at' HNA.out.1).lt; have H8 := Lib.hid (H7.out.app (Nat.le_of_eq HDB.out) HO8.out (len' := len + 1) (by rw [List.length_append, H7.out.len]; rfl) hF8); clear f6 l6 fV lV) | fail)
        rw [← HST.out] at H8
        go_roundw
        case rel => exact ⟨k + 1, A2, len + 1, cap2, by omega, by simp, H8⟩
        case measure => simp [intOf]; omega
    · obtain rfl : k = n := by omega
      have htk : (rotV c an).take k = rotV c an := List.take_of_length_le (by rw [rotV_len, HN.out]; omega)
      rw [htk] at H
      obtain ⟨dl, hdl⟩ : ∃ l, (rotV c an).flatMap splitV = l := ⟨_, rfl⟩
      have HSM : Hid (SameV c dl) := by show SameV _ _; rw [← hdl]; exact same_order c an
      have HDO : Hid (okP dl) := by show okP _; rw [← hdl]; exact splitV_ok HOK.out
      rw [hdl] at H
      have hc4 := HAM.out.below HB2W.out
      have HP3 := Lib.hid (HRp.out.below HB2W.out)
      have f4 := hc4.five
      have l4 := hc4.lt
      clear htk hdl hlt hk hc4 HOK
      go_wp2_with fail
      refine (build_any cu cv cs cm Ac k cc c wr HUV.out.1 HUV.out.2 HN.out (HRC0.out.below HBW.out) HC0.out).mono ?_
      rintro e w4 (⟨rfl, hb⟩ | ⟨hp, s, part, rep, stand, b, m1, S1, TB1, rfl, hc, _, rfl, hB⟩)
      · have HB4 := Lib.hid (keep1 HBW.out hb)
        have H4 := Lib.hid (H.out.below hb)
        have f5 := H4.out.at'.five
        have l5 := H4.out.at'.lt
        clear hb H HBW f4 l4
        go_wp2_with fail
        refine (build_any cu cv cs cm A len cap dl w4 HUV.out.1 HUV.out.2 H4.out.len H4.out.own.rd HDO.out).mono ?_
        rintro e w5 (⟨rfl, hb⟩ | ⟨hp, s, part, rep, stand, b, m1, S1, TB1, rfl, hc, _, rfl, hB⟩)
        · have HB5 := Lib.hid (keep1 HB4.out hb)
          clear hb HB4 f5 l5
          go_wp2
          go_ret
          exact ⟨rfl, HB5.out⟩
        · have HB5 := Lib.hid (keep1 HB4.out (Two.below hB))
          clear hp hc hB HB4 f5 l5
          go_wp2
          go_ret
          exact ⟨rfl, HB5.out⟩
      have HB4 := Lib.hid (keep1 HBW.out (Two.below hB))
      have H4 := Lib.hid (H.out.below (Two.below hB))
      have HP4 := Lib.hid (HP3.out.below (Two.below hB))
      have HV1 := Lib.hid (hp.vok HC0.out)
      have HX1 := Lib.hid (Two.x hB)
      have HC := Lib.hid hc
      have f5 := H4.out.at'.five
      have l5 := H4.out.at'.lt
      clear hp hB hc H HBW f4 l4 HP3
      go_wp2_with fail
      refine (build_any cu cv (sideZ s) cm A len cap dl w4 HUV.out.1 HUV.out.2 H4.out.len H4.out.own.rd HDO.out).mono ?_
      rintro e w5 (⟨rfl, hb⟩ | ⟨hp, s2, part2, rep2, stand2, o, m2, S2, TB2, hs2, hc2, _, rfl, hB⟩)
      · have HB5 := Lib.hid (keep1 HB4.out hb)
        clear hb HB4 f5 l5
        go_wp2
        go_ret
        exact ⟨rfl, HB5.out⟩
      obtain rfl : s = s2 := by cases s <;> cases s2 <;> simp [sideZ] at hs2 ⊢
      obtain ⟨_, rfl, rfl, rfl⟩ := Cs.one HC.out hc2
      have HB5 := Lib.hid (keep1 HB4.out (Two.below hB))
      obtain ⟨bb, oo, q0, q1, K0, K1, n0, n1, L0, L1, hF⟩ := ord_facts (HX1.out.below (Two.below hB)) (Two.x hB) HC.out.ps HSM.out HV1.out (hp.vok HDO.out) (by have := HN.out; omega) HPQ.out.1.1 HPQ.out.1.2 HPQ.out.2.1 HPQ.out.2.2
      have HF := Lib.hid hF
      have HP5 := Lib.hid (HP4.out.below (Two.below hB))
      have fp := HP5.out.two
      have lp := HP5.out.lt
      have eq0 : (q0 == q0) = true := beq_self_eq_true q0
      have eq1 : (q1 == q1) = true := beq_self_eq_true q1
      have eL0 : (L0 == L0) = true := beq_self_eq_true L0
      have eL1 : (L1 == L1) = true := beq_self_eq_true L1
      clear hp hB hc2 hs2 hF f5 l5 HX1 HP4 H4
      go_wp2_with fail
      refine (HF.out.qb w5 (Below.refl _ _)).mono ?_
      rintro e w6 ⟨rfl, hb⟩
      have H6 := Lib.hid hb
      have fp6 := (HP5.out.below hb).two
      have lp6 := (HP5.out.below hb).lt
      clear hb fp lp
      go_wp2_with fail
      refine (HF.out.qo w6 H6.out).mono ?_
      rintro e w7 ⟨rfl, hb⟩
      have H7 := Lib.hid (keep1 H6.out hb)
      clear hb fp6 lp6 H6
      go_wp2_with fail
      refine (HF.out.nb w7 H7.out).mono ?_
      rintro e w8 ⟨rfl, rfl⟩
      go_wp2_with fail
      refine (HF.out.rb w7 H7.out).mono ?_
      rintro e w8 ⟨A0, c0, A1, c1, rfl, hr0, hr1, hb⟩
      have H8 := Lib.hid (keep1 H7.out hb)
      have HA0 := Lib.hid hr0
      have HA1 := Lib.hid hr1
      clear hb hr0 hr1 H7
      go_wp2_with fail
      refine (HF.out.no w8 H8.out).mono ?_
      rintro e w9 ⟨rfl, rfl⟩
      go_wp2_with fail
      refine (HF.out.ro w8 H8.out).mono ?_
      rintro e w9 ⟨A2, c2, A3, c3, rfl, hr2, hr3, hb⟩
      have H9 := Lib.hid (keep1 H8.out hb)
      have HA09 := Lib.hid (HA0.out.below hb)
      have HA19 := Lib.hid (HA1.out.below hb)
      have HA2 := Lib.hid hr2
      have HA3 := Lib.hid hr3
      clear hb hr2 hr3 H8 HA0 HA1
      go_wp2_with fail
      refine (HF.out.nb w9 H9.out).mono ?_
      rintro e w10 ⟨rfl, rfl⟩
      go_wp2_with fail
      refine (HF.out.lb w9 H9.out).mono ?_
      rintro e w10 ⟨rfl, hb⟩
      have H10 := Lib.hid (keep1 H9.out hb)
      have HA010 := Lib.hid (HA09.out.below hb)
      have HA110 := Lib.hid (HA19.out.below hb)
      have HA210 := Lib.hid (HA2.out.below hb)
      have HA310 := Lib.hid (HA3.out.below hb)
      clear hb H9 HA09 HA19 HA2 HA3
      go_wp2_with fail
      refine (HF.out.no w10 H10.out).mono ?_
      rintro e w11 ⟨rfl, rfl⟩
      go_wp2_with fail
      refine (HF.out.lo w10 H10.out).mono ?_
      rintro e w11 ⟨rfl, hb⟩
      have H11 := Lib.hid (keep1 H10.out hb)
      have HA011 := Lib.hid (HA010.out.below hb)
      have HA111 := Lib.hid (HA110.out.below hb)
      have HA211 := Lib.hid (HA210.out.below hb)
      have HA311 := Lib.hid (HA310.out.below hb)
      clear hb H10 HA010 HA110 HA210 HA310
      go_wp2_with fail
      refine (HF.out.s0 A0 A2 c0 c2 w11 HA011.out HA211.out).mono ?_
      rintro e w12 ⟨rfl, hb⟩
      have H12 := Lib.hid (keep1 H11.out hb)
      have HA112 := Lib.hid (HA111.out.below hb)
      have HA312 := Lib.hid (HA311.out.below hb)
      clear hb H11 HA011 HA111 HA211 HA311
      go_wp2_with fail
      refine (HF.out.s1 A1 A3 c1 c3 w12 HA112.out HA312.out).mono ?_
      rintro e w13 ⟨rfl, hb⟩
      have H13 := Lib.hid (keep1 HB5.out (keep1 H12.out hb))
      clear hb H12 HA112 HA312 HF
      go_wp2
      go_ret
      exact ⟨rfl, H13.out⟩
end Go.Proofs.YtondkkhagbcadaaGreat
