/- Contract of package hdr: Load. -/
import Derived.Test.YtnkkdciecjhpoaaDoorProg
import Derived.Test.YtnkkdciecjhpoaaDoorLoadP
import Derived.Test.YtnkkdciecjhpoaaDoorHdrAsk
import Derived.Test.YtnkkdciecjhpoaaDoorHdrJoinAll
namespace Go.Proofs.YtnkkdciecjhpoaaDoor
open Go.RowKit

def plus3Q (a b c : Int) : Int := if a + b + c ≤ 9223372036854775807 then a + b + c else 0
/-- Three counts. -/
theorem plus3_any (g : Nat) (a b c : Int) (w : World) (ha : 0 ≤ a ∧ a < 18446744073709551616) (hb : 0 ≤ b ∧ b < 18446744073709551616) (hc : 0 ≤ c ∧ c < 18446744073709551616)
    (h0 : w.cell? ⟨g, 0, none⟩ = some (.int .u64 a)) (h1 : w.cell? ⟨g, 1, none⟩ = some (.int .u64 b)) (h2 : w.cell? ⟨g, 2, none⟩ = some (.int .u64 c)) :
    Calls Tryd.prog 49 #[.slice (some ⟨g, 0, none⟩) 3 3] w fun e w' => e = .returned (.tuple #[.int .u64 (plus3Q a b c), .bool (decide (a + b + c ≤ 9223372036854775807))]) ∧ w = w' := by
  refine (plus_any (some ⟨g, 0, none⟩) 3 3 [a, b, c] w rfl (by omega) (by intro x hx; simp at hx; omega) (fun j hj => ⟨_, rfl, ?_⟩)).mono ?_
  · rcases (show j = 0 ∨ j = 1 ∨ j = 2 by omega) with rfl | rfl | rfl
    · simpa [Addr.add] using h0
    · simpa [Addr.add] using h1
    · simpa [Addr.add] using h2
  · rintro e w' ⟨rfl, rfl⟩
    refine ⟨?_, rfl⟩
    congr 1
    have hv : plusF 0 [a, b, c] = if a + b + c ≤ 9223372036854775807 then some (a + b + c) else none := by
      unfold plusF plusF plusF plusF
      by_cases h1 : 0 + a ≤ 9223372036854775807
      · rw [if_pos h1]
        by_cases h2 : 0 + a + b ≤ 9223372036854775807
        · rw [if_pos h2]
          by_cases h3 : 0 + a + b + c ≤ 9223372036854775807
          · rw [if_pos h3, if_pos (by omega), Int.zero_add]
          · rw [if_neg h3, if_neg (by omega)]
        · rw [if_neg h2, if_neg (by omega)]
      · rw [if_neg h1, if_neg (by omega)]
    rw [hv]
    unfold plusV plus3Q
    by_cases h : a + b + c ≤ 9223372036854775807
    · rw [if_pos h, if_pos h, decide_eq_true h]; rfl
    · rw [if_neg h, if_neg h, decide_eq_false h]; rfl
theorem sprep_ok (b : Nat) (x d : Int) (w : World) (h : SpanAt w b d) (h1 : 0 < x) (h2 : x ≤ topD d) :
    Calls Tryd.prog 47 #[.pointer (some ⟨b, 0, none⟩), .int .i64 x] w fun e w' => (∃ r : Int, e = .returned (.int .u64 r) ∧ ¬ r = 0) ∧ Below w.heap.size w w' := by
  obtain ⟨i, rfl⟩ := Int.eq_ofNat_of_zero_le (Int.le_of_lt h1)
  refine (sprep_any b i d w h (by omega) (by unfold topD at h2; omega)).mono ?_
  rintro e w' ⟨rfl, hb⟩
  exact ⟨⟨_, rfl, by have := rep_pos (d := d) (i := i) (by omega) h2; omega⟩, hb⟩

/-- Can it be loaded? -/
structure HloadOk (d : Int) (q0 q1 : List (Int × Int)) (zero lo hi : Int) : Prop where
  r0 : RowOk (topD d) q0
  r1 : RowOk (topD d) q1
  sm : sumP q0 + sumP q1 + zero ≤ 9223372036854775807
  le : lo ≤ hi
  z : sumP q0 + sumP q1 + zero = 0 → lo = 0 ∧ hi = 0
/-- What Load answers. -/
def HloadR (d lim : Int) (q0 q1 : List (Int × Int)) (zero lo hi : Int) (w : World) (e : Ending) (w' : World) : Prop :=
  (HloadOk d q0 q1 zero lo hi ∧ ∃ b S, e = .returned (.tuple #[.pointer (some ⟨b, 0, none⟩), .int .i64 0]) ∧ Within S w.heap.size w'.heap.size ∧ Hd w' b S d lim q0 q1 zero lo hi) ∨
  (¬ HloadOk d q0 q1 zero lo hi ∧ e = .returned (.tuple #[.pointer none, .int .i64 1]))
theorem HloadR.bad {d lim : Int} {q0 q1 : List (Int × Int)} {zero lo hi : Int} {w w' : World} (h : ¬ HloadOk d q0 q1 zero lo hi) : HloadR d lim q0 q1 zero lo hi w (.returned (.tuple #[.pointer none, .int .i64 1])) w' := .inr ⟨h, rfl⟩
def rowOf (q0 q1 : List (Int × Int)) (k : Nat) : List (Int × Int) := if k = 0 then q0 else q1
theorem HloadOk.row {d : Int} {q0 q1 : List (Int × Int)} {zero lo hi : Int} (h : HloadOk d q0 q1 zero lo hi) (k : Nat) : RowOk (topD d) (rowOf q0 q1 k) := by
  unfold rowOf; split
  · exact h.r0
  · exact h.r1
def rowK (q : List (Int × Int)) (k i j : Nat) : List (Int × Int) := if k < i then [] else if k = i then q.take j else q
/-- While Load fills row k: j pairs of it are in. -/
structure LdI (w W : World) (b sp : Nat) (d lim : Int) (q0 q1 : List (Int × Int)) (k j : Nat) : Prop where
  st : ∃ c0 c1 S0 S1, HdB W b sp c0 c1 S0 S1 d lim (rowK q0 k 0 j) (rowK q1 k 1 j) 0 0 0 ∧ Within (b :: sp :: (S0 ++ S1)) w.heap.size W.heap.size
  bl : Below w.heap.size w W
section
variable {w W W' : World} {b sp : Nat} {d lim : Int} {q0 q1 : List (Int × Int)} {k j : Nat}
theorem LdI.below (h : LdI w W b sp d lim q0 q1 k j) (hb : Below W.heap.size W W') : LdI w W' b sp d lim q0 q1 k j := by
  obtain ⟨c0, c1, S0, S1, h1, h2⟩ := h.st
  exact ⟨⟨c0, c1, S0, S1, h1.below hb, h2.mono hb.size⟩, keep1 h.bl hb⟩
theorem LdI.next (h : LdI w W b sp d lim q0 q1 k j) (hk : k < 2) (hj : (rowOf q0 q1 k).length ≤ j) : LdI w W b sp d lim q0 q1 (k + 1) 0 := by
  refine ⟨?_, h.bl⟩
  obtain ⟨c0, c1, S0, S1, h1, h2⟩ := h.st
  refine ⟨c0, c1, S0, S1, ?_, h2⟩
  rcases (by omega : k = 0 ∨ k = 1) with rfl | rfl
  · have e : q0.take j = q0 := List.take_of_length_le (by unfold rowOf at hj; rwa [if_pos rfl] at hj)
    unfold rowK at h1 ⊢
    simpa [e] using h1
  · have e : q1.take j = q1 := List.take_of_length_le (by unfold rowOf at hj; rwa [if_neg (by omega)] at hj)
    unfold rowK at h1 ⊢
    simpa [e] using h1
/-- The strip that is filled. -/
theorem LdI.pick (h : LdI w W b sp d lim q0 q1 k j) (hk : k < 2) : ∃ c0 c1 c S, At W b #[.int .i64 d, .int .u64 lim, .pointer (some ⟨sp, 0, none⟩), .pointer (some ⟨c0, 0, none⟩), .pointer (some ⟨c1, 0, none⟩), .int .u64 0, .int .i64 0, .int .i64 0] 88 ∧
    SpanAt W sp d ∧ W.cell? ⟨b, 3 + k, none⟩ = some (.pointer (some ⟨c, 0, none⟩)) ∧ Strip W c S 4096 ((rowOf q0 q1 k).take j) ∧ b ∉ S ∧ (∀ x ∈ S, w.heap.size ≤ x ∧ x < W.heap.size) ∧
    ∀ W1 W2 T, Below W.heap.size W W1 → GrownS S T W1.heap.size → Strip W2 c T 4096 ((rowOf q0 q1 k).take (j + 1)) → Frame S W1 W2 → LdI w W2 b sp d lim q0 q1 k (j + 1) := by
  obtain ⟨c0, c1, S0, S1, h1, h2⟩ := h.st
  rcases (by omega : k = 0 ∨ k = 1) with rfl | rfl
  · have e0 : ∀ j, rowK q0 0 0 j = (rowOf q0 q1 0).take j := fun j => by unfold rowK rowOf; simp
    have e1 : ∀ j, rowK q1 0 1 j = [] := fun j => by unfold rowK; simp
    have hst := h1.s0
    rw [e0] at hst
    refine ⟨c0, c1, c0, S0, h1.at', h1.span, h1.at'.cell rfl, hst, h1.n0, fun x hx => h2 x (by simp [hx]), fun W1 W2 T hb hg hS hF => ?_⟩
    have k1 := h1.below hb
    have z1 := h.bl.size
    have z2 := hb.size
    refine ⟨⟨c0, c1, T, S1, ?_, fun x hx => ?_⟩, hF.below' (keep1 h.bl hb) (by omega) fun x hx => ⟨(h2 x (by simp [hx])).1, by have := (h2 x (by simp [hx])).2; omega⟩⟩
    · rw [e0, e1]
      have := k1.side0 hg hS hF
      rwa [e1] at this
    · have hz := hF.size
      simp only [List.mem_cons, List.mem_append] at hx
      rcases hx with rfl | rfl | hx | hx
      · have := h2 x (by simp); omega
      · have := h2 x (by simp); omega
      · rcases hg x hx with h3 | h3
        · have := h2 x (by simp [h3]); omega
        · exact ⟨by omega, hS.lt x hx⟩
      · have := h2 x (by simp [hx]); omega
  · have e1 : ∀ j, rowK q1 1 1 j = (rowOf q0 q1 1).take j := fun j => by unfold rowK rowOf; simp
    have e0 : ∀ j, rowK q0 1 0 j = q0 := fun j => by unfold rowK; simp
    have hst := h1.s1
    rw [e1] at hst
    refine ⟨c0, c1, c1, S1, h1.at', h1.span, h1.at'.cell rfl, hst, h1.n1, fun x hx => h2 x (by simp [hx]), fun W1 W2 T hb hg hS hF => ?_⟩
    have k1 := h1.below hb
    have z1 := h.bl.size
    have z2 := hb.size
    refine ⟨⟨c0, c1, S0, T, ?_, fun x hx => ?_⟩, hF.below' (keep1 h.bl hb) (by omega) fun x hx => ⟨(h2 x (by simp [hx])).1, by have := (h2 x (by simp [hx])).2; omega⟩⟩
    · rw [e0, e1]
      have := k1.side1 hg hS hF
      rwa [e0] at this
    · have hz := hF.size
      simp only [List.mem_cons, List.mem_append] at hx
      rcases hx with rfl | rfl | hx | hx
      · have := h2 x (by simp); omega
      · have := h2 x (by simp); omega
      · have := h2 x (by simp [hx]); omega
      · rcases hg x hx with h3 | h3
        · have := h2 x (by simp [h3]); omega
        · exact ⟨by omega, hS.lt x hx⟩
end
theorem LdI.start {w W : World} {b : Nat} {S : List Nat} {d lim : Int} {q0 q1 : List (Int × Int)} (hw : Within S w.heap.size W.heap.size) (h : Hd W b S d lim [] [] 0 0 0) (hb : Below w.heap.size w W) : ∃ sp, LdI w W b sp d lim q0 q1 0 0 := by
  obtain ⟨sp, c0, c1, S0, S1, rfl, h⟩ := h
  exact ⟨sp, ⟨c0, c1, S0, S1, by unfold rowK; simpa using h, hw⟩, hb⟩
/-- The sketch's block, the pair's, and the strip that is filled. -/
def LdW (b k c g : Nat) (cs : Array Value) (x y : Int) (W : World) : Prop := (At W b cs 88 ∧ At W g #[.int .i64 x, .int .u64 y] 66) ∧ W.cell? ⟨b, 3 + k, none⟩ = some (.pointer (some ⟨c, 0, none⟩))
theorem LdW.far {b k c g : Nat} {cs : Array Value} {x y : Int} {W : World} (h : LdW b k c g cs x y W) : At W b cs 88 ∧ At W g #[.int .i64 x, .int .u64 y] 66 := h.1
theorem LdW.strip {b k c g : Nat} {cs : Array Value} {x y : Int} {W : World} (h : LdW b k c g cs x y W) : W.cell? ⟨b, 3 + k, none⟩ = some (.pointer (some ⟨c, 0, none⟩)) := h.2
theorem LdW.keep {b k c g : Nat} {cs : Array Value} {x y : Int} {S : List Nat} {W W' : World} (h : LdW b k c g cs x y W) (hF : Frame S W W') (hb : b ∉ S) (hg : g ∉ S) : LdW b k c g cs x y W' :=
  ⟨⟨hF.at h.1.1 hb, hF.at h.1.2 hg⟩, by rw [← h.2]; exact World.cell?_of_block (w := W) (hF.block b h.1.1.lt hb)⟩
set_option maxRecDepth 100000 in
set_option maxHeartbeats 4000000 in
theorem hload_any (d lim : Int) (A0 : Option Addr) (n0 cp0 : Nat) (q0 : List (Int × Int)) (A1 : Option Addr) (n1 cp1 : Nat) (q1 : List (Int × Int)) (zero lo hi : Int) (w : World) (hT : TensAt w) (h1 : 1 ≤ d) (h4 : d ≤ 4) (hl : 0 ≤ lim) (hl' : lim ≤ 9223372036854775808)
    (k0 : q0.length = n0) (k1 : q1.length = n1) (m0 : n0 ≤ 4096) (m1 : n1 ≤ 4096) (R0 : RdP w A0 q0) (R1 : RdP w A1 q1) (o0 : okP q0) (o1 : okP q1) (hz : 0 ≤ zero) (hz' : zero < 18446744073709551616)
    (hlo : -9223372036854775808 ≤ lo ∧ lo ≤ 9223372036854775807) (hhi : -9223372036854775808 ≤ hi ∧ hi ≤ 9223372036854775807) :
    Calls Tryd.prog 22 #[.agg #[.int .i64 d, .int .u64 lim], .slice A0 n0 cp0, .slice A1 n1 cp1, .int .u64 zero, .int .i64 lo, .int .i64 hi] w fun e w' => HloadR d lim q0 q1 zero lo hi w e w' ∧ Below w.heap.size w w' := by
  have HN := Lib.hid fun W (hb : Below w.heap.size w W) => hnew_any d lim W (hT.below hb) h1 h4 hl hl'
  have HROWS : Hid (∀ k < 2, ∃ A n c, (∀ W, (Instr.index 104 (.agg #[.slice A0 n0 cp0, .slice A1 n1 cp1]) (.int .i64 (k : Nat))).run Tryd.prog W = .ok (.slice A n c) W) ∧ n ≤ 4096 ∧ Hid (RdP w A (rowOf q0 q1 k) ∧ okP (rowOf q0 q1 k) ∧ (rowOf q0 q1 k).length = n)) := fun k hk => by
    rcases (by omega : k = 0 ∨ k = 1) with rfl | rfl
    · exact ⟨A0, n0, cp0, fun W => by kernel_rfl, m0, R0, o0, k0⟩
    · exact ⟨A1, n1, cp1, fun W => by kernel_rfl, m1, R1, o1, k1⟩
  have HZ : Hid ((0 ≤ zero ∧ zero < 18446744073709551616) ∧ (-9223372036854775808 ≤ lo ∧ lo ≤ 9223372036854775807) ∧ (-9223372036854775808 ≤ hi ∧ hi ≤ 9223372036854775807)) := ⟨⟨hz, hz'⟩, hlo, hhi⟩
  clear hT h1 h4 hl hl' k0 k1 m0 m1 R0 R1 o0 o1 hz hz' hlo hhi
  go_enter Tryd.func22, Tryd.ntmps22
  have hb0 : Below w.heap.size w (w.alloc (.cells #[.int .i64 d, .int .u64 lim] 45)) := (Below.refl _ _).alloc (Nat.le_refl _) _
  have r2 := At.new' w #[.int .i64 d, .int .u64 lim] 45 rfl
  go_wp2_with fail
  refine (HN.out _ hb0).mono ?_
  rintro e w1 ⟨⟨b, S, rfl, hW, hH⟩, hb⟩
  obtain ⟨sp, hI⟩ := LdI.start (w := w) (q0 := q0) (q1 := q1) (fun x hx => ⟨by have := (hW x hx).1; have := hb0.size; omega, (hW x hx).2⟩) hH (keep1 hb0 hb)
  have H1 := Lib.hid hI
  clear hb0 r2 hW hH hb hI HN
  go_wp2
  go_loopw [16, 17, 18, 20, 34, 40] (fun _ _ _ _ i _ wr => ∃ kk : Nat, kk ≤ 2 ∧ i = .int .i64 kk ∧ Hid (LdI w wr b sp d lim q0 q1 kk 0) ∧ Hid (∀ i < kk, RowOk (topD d) (rowOf q0 q1 i))) (fun _ _ _ _ i _ _ => 2 - (intOf i).toNat)
  case atStart => exact ⟨0, by omega, rfl, H1, fun i hi => by omega⟩
  case round =>
    obtain ⟨kk, hkk, rfl, HI, HOK⟩ := hrel
    clear H1
    by_cases hlt : kk < 2
    · obtain ⟨A, len, cap, hix, hlen, HX⟩ := HROWS.out kk hlt
      have kk0 : (0 : Int) ≤ kk := by omega
      have kk1 : (kk : Int) < 2 := by omega
      go_wp2
      go_loopw [18, 20, 40] (fun lst _ i wi => ∃ j : Nat, ∃ z : Int, j ≤ len ∧ i = .int .i64 j ∧ lst = .int .i64 z ∧ Hid (LdI w wi b sp d lim q0 q1 kk j) ∧ Hid (RowIn (topD d) z ((rowOf q0 q1 kk).take j))) (fun _ _ i _ => len - (intOf i).toNat)
      case atStart => exact ⟨0, 0, by omega, rfl, rfl, HI, RowIn.nil _⟩
      case round =>
        obtain ⟨j, z, hj, rfl, rfl, HJ, HIN⟩ := hrel
        clear HI
        by_cases hjt : j < len
        · obtain ⟨g, o, rfl, hg, c1, c2⟩ := (HX.out.1.below HJ.out.bl).at j (by have := HX.out.2.2; omega)
          have HB := Lib.hid (HX.out.2.1.at j (by have := HX.out.2.2; omega))
          have HJL : Hid (j < (rowOf q0 q1 kk).length) := by have := HX.out.2.2; show _ < _; omega
          have HBAD1 : Hid (((rowOf q0 q1 kk)[j]'HJL.out).1 ≤ z → ¬ HloadOk d q0 q1 zero lo hi) := fun h k => HIN.out.bad HJL.out h (k.row kk)
          have HBAD2 : Hid (topD d < ((rowOf q0 q1 kk)[j]'HJL.out).1 → ¬ HloadOk d q0 q1 zero lo hi) := fun h k => RowOk.over HJL.out h (k.row kk)
          have HBAD3 : Hid (((rowOf q0 q1 kk)[j]'HJL.out).2 ≤ 0 → ¬ HloadOk d q0 q1 zero lo hi) := fun h k => RowOk.none HJL.out h (k.row kk)
          have HBAD4 : Hid (9223372036854775807 < sumP ((rowOf q0 q1 kk).take j) + ((rowOf q0 q1 kk)[j]'HJL.out).2 → ¬ HloadOk d q0 q1 zero lo hi) := fun h k => RowOk.much HJL.out h (k.row kk)
          have HSN := Lib.hid fun h1 h2 h3 h4 => RowIn.snoc (top := topD d) (last := z) HJL.out HIN.out h1 h2 h3 h4
          have HL0 := Lib.hid (And.intro HIN.out.l0 (And.intro HIN.out.ok.gd (And.intro (sumP_nonneg HIN.out.ok.gd.pos) (topD_le d))))
          have HTL : Hid (((rowOf q0 q1 kk).take (j + 1)).length ≤ 4096) := by have := HX.out.2.2; show _ ≤ _; rw [List.length_take]; omega
          obtain ⟨⟨x, y⟩, hx⟩ : ∃ x, (rowOf q0 q1 kk)[j]'HJL.out = x := ⟨_, rfl⟩
          rw [hx] at c1 c2 HB HBAD1 HBAD2 HBAD3 HBAD4 HSN
          dsimp only at c1 c2 HB HBAD1 HBAD2 HBAD3 HBAD4 HSN
          clear hx
          have hba : Below wr.heap.size wr (wr.alloc (.cells #[.int .i64 x, .int .u64 y] 66)).drew := ((Below.refl _ _).alloc (Nat.le_refl _) _).drew
          have aP := (At.new wr #[.int .i64 x, .int .u64 y] 66).drew
          have hgl : Hid (∀ c ∈ [wr.heap.size], wr.heap.size ≤ c) := fun c hc => by simp at hc; omega
          go_wp2
          obtain ⟨W4, hW4⟩ : ∃ W, (wr.alloc (.cells #[.int .i64 x, .int .u64 y] 66)).drew = W := ⟨_, rfl⟩
          obtain ⟨g2, hg2⟩ : ∃ g2, wr.heap.size = g2 := ⟨_, rfl⟩
          rw [hW4] at hba aP
          have H4 := Lib.hid (HJ.out.below hba)
          obtain ⟨c0', c1', ck, Sk, p1, p2, p3, p4, p5, p6, p7⟩ := HJ.out.pick hlt
          have HGS : Hid (g2 ∉ Sk) := fun hm => by have := (p6 g2 hm).2; omega
          have q1' := p1.below hba
          have p3' : W4.cell? ⟨b, 3 + kk, none⟩ = some (.pointer (some ⟨ck, 0, none⟩)) := by rw [← p3]; exact World.cell?_of_block (w := wr) (hba.block b p1.lt)
          have HSP := Lib.hid (p2.below hba)
          have HST := Lib.hid (p4.below hba)
          have HNB := Lib.hid p5
          have HP6 := Lib.hid fun x hx => (p6 x hx).1
          have HP7 := Lib.hid fun W1 W2 T (hb : Below W4.heap.size W4 W1) => p7 W1 W2 T (keep1 hba hb)
          rw [hg2] at aP
          simp only [hg2]
          have hL4 : LdW b kk ck g2 #[.int .i64 d, .int .u64 lim, .pointer (some ⟨sp, 0, none⟩), .pointer (some ⟨c0', 0, none⟩), .pointer (some ⟨c1', 0, none⟩), .int .u64 0, .int .i64 0, .int .i64 0] x y W4 := ⟨⟨q1', aP⟩, p3'⟩
          have HL4 := Lib.hid hL4
          haveI hne : Nonempty (Held (LdW b kk ck g2 #[.int .i64 d, .int .u64 lim, .pointer (some ⟨sp, 0, none⟩), .pointer (some ⟨c0', 0, none⟩), .pointer (some ⟨c1', 0, none⟩), .int .u64 0, .int .i64 0, .int .i64 0] x y)) := ⟨⟨W4, hL4⟩⟩
          have hfar1 := fun v : Held (LdW b kk ck g2 #[.int .i64 d, .int .u64 lim, .pointer (some ⟨sp, 0, none⟩), .pointer (some ⟨c0', 0, none⟩), .pointer (some ⟨c1', 0, none⟩), .int .u64 0, .int .i64 0, .int .i64 0] x y) => v.held.far.1.eight
          have hfar2 := fun v : Held (LdW b kk ck g2 #[.int .i64 d, .int .u64 lim, .pointer (some ⟨sp, 0, none⟩), .pointer (some ⟨c0', 0, none⟩), .pointer (some ⟨c1', 0, none⟩), .int .u64 0, .int .i64 0, .int .i64 0] x y) => v.held.far.2.two
          have hfar3 := fun v : Held (LdW b kk ck g2 #[.int .i64 d, .int .u64 lim, .pointer (some ⟨sp, 0, none⟩), .pointer (some ⟨c0', 0, none⟩), .pointer (some ⟨c1', 0, none⟩), .int .u64 0, .int .i64 0, .int .i64 0] x y) => v.held.strip
          refine wp_region_noPanic ?_
          refine wp_region_held_drew (S := HeldS (LdW b kk ck g2 #[.int .i64 d, .int .u64 lim, .pointer (some ⟨sp, 0, none⟩), .pointer (some ⟨c0', 0, none⟩), .pointer (some ⟨c1', 0, none⟩), .int .u64 0, .int .i64 0, .int .i64 0] x y)) (by kernel_rfl) (by rw [hW4]; exact HeldS.mk' HL4.out) (fun hHeld => ?_)
          rw [hW4] at hHeld ⊢
          clear hW4 hg2 hba aP hgl p1 p2 p3 p4 p5 p6 p7 q1' p3' hL4 c1 c2 hg HJ hix HOK HIN
          by_cases hxz : x ≤ z
          · have HBD := Lib.hid (HBAD1.out hxz)
            have hd : decide (x ≤ z) = true := decide_eq_true hxz
            clear hxz HBAD1 HBAD2 HBAD3 HBAD4 HSN HB HX HST HP7 HSP
            refine wpAnyH_run0 [true, true, true, true, true, true, true, true, true, true, true] 17 (by kernel_rfl) (by kernel_rfl) (fun _ _ _ _ h => h) (by kernel_rfl) hHeld ?_
            simp only [runOps_true, runOps_false, runOps_nil]
            repeat (first | go_big_quiet_skip | (go_big_quiet_want; go_big_quiet_op; go_big_quiet_on))
            refine wpQuiet_nil ?_
            refine wpAnyH_ready (rs := [11]) (by kernel_rfl) (by simp) ?_
            refine AllReadyH.cons rfl (fun K hK => ?_) AllReadyH.nil
            go_simp
            refine hK.out _ _ ?_ (fun hHeld => ?_)
            clear hK K
            · exact HeldS.mk' HL4.out
            refine wpAnyH_run0 [false, false, false, false, false, false, false, false, false, false, false, false, true, true, true, true, true, true, true, true, true, true, true, true, true] 3 (by kernel_rfl) (by kernel_rfl) (fun _ _ _ _ h => h) (by kernel_rfl) hHeld ?_
            simp only [runOps_true, runOps_false, runOps_nil]
            repeat (first | go_big_quiet_skip | (go_big_quiet_want; go_big_quiet_op; go_big_quiet_on))
            refine wpQuiet_nil ?_
            refine wpAnyH_ready (rs := [25]) (by kernel_rfl) (by simp) ?_
            refine AllReadyH.cons rfl (fun K hK => ?_) AllReadyH.nil
            go_simp
            refine hK.out _ _ ?_ (fun hHeld => ?_)
            clear hK K
            · exact HeldS.mk' HL4.out
            refine wpAnyH_run0 [false, false, false, false, false, false, false, false, false, false, false, false, false, false, false, false, false, false, false, false, false, false, false, false, false, false, true, true] 0 (by kernel_rfl) (by kernel_rfl) (fun _ _ _ _ h => h) (by kernel_rfl) hHeld ?_
            simp only [runOps_true, runOps_false, runOps_nil]
            repeat (first | go_big_quiet_skip | (go_big_quiet_want; go_big_quiet_op; go_big_quiet_on))
            refine wpQuiet_nil ?_
            refine wpAnyH_done (by kernel_rfl) ?_ _
            refine NoPanic.normal ?_
            clear hfar1 hfar2 hfar3 hHeld hd
            go_wp2
            go_ret2
            exact ⟨HloadR.bad HBD.out, H4.out.bl⟩
          · have hd : decide (x ≤ z) = false := decide_eq_false hxz
            have HXZ : Hid (z < x) := by show _ < _; omega
            clear hxz HBAD1
            refine wpAnyH_run0 [true, true, true, true, true, true, true, true, true, true, true] 17 (by kernel_rfl) (by kernel_rfl) (fun _ _ _ _ h => h) (by kernel_rfl) hHeld ?_
            simp only [runOps_true, runOps_false, runOps_nil]
            repeat (first | go_big_quiet_skip | (go_big_quiet_want; go_big_quiet_op; go_big_quiet_on))
            refine wpQuiet_nil ?_
            by_cases htop : topD d < x
            · have HBD := Lib.hid (HBAD2.out htop)
              have HTP : Hid (topD d < x) := htop
              clear htop HBAD2 HBAD3 HBAD4 HSN HB HX HP7
              refine wpAnyH_ready (rs := [11]) (by kernel_rfl) (by simp) ?_
              refine AllReadyH.cons rfl (fun K hK => ?_) AllReadyH.nil
              go_simp
              go_wp2_with (go_at_call 47; refine (sprep_bad sp x d W4 HSP.out (.inr HTP.out)).mono ?_; rintro e w5 ⟨rfl, hb⟩)
              refine hK.out _ _ ?_ (fun hHeld => ?_)
              clear hK K
              · exact HeldS.mk' (HL4.out.keep (Frame.of_below (S := []) hb) (by simp) (by simp))
              have H5 := Lib.hid (H4.out.below hb)
              have HL5 := Lib.hid (HL4.out.keep (Frame.of_below (S := []) hb) (by simp) (by simp))
              clear hb H4 HL4 HST HSP
              refine wpAnyH_run0 [false, false, false, false, false, false, false, false, false, false, false, false, true, true, true, true, true, true, true, true, true, true, true, true, true] 3 (by kernel_rfl) (by kernel_rfl) (fun _ _ _ _ h => h) (by kernel_rfl) hHeld ?_
              simp only [runOps_true, runOps_false, runOps_nil]
              repeat (first | go_big_quiet_skip | (go_big_quiet_want; go_big_quiet_op; go_big_quiet_on))
              refine wpQuiet_nil ?_
              refine wpAnyH_ready (rs := [25]) (by kernel_rfl) (by simp) ?_
              refine AllReadyH.cons rfl (fun K hK => ?_) AllReadyH.nil
              go_simp
              refine hK.out _ _ ?_ (fun hHeld => ?_)
              clear hK K
              · exact HeldS.mk' HL5.out
              refine wpAnyH_run0 [false, false, false, false, false, false, false, false, false, false, false, false, false, false, false, false, false, false, false, false, false, false, false, false, false, false, true, true] 0 (by kernel_rfl) (by kernel_rfl) (fun _ _ _ _ h => h) (by kernel_rfl) hHeld ?_
              simp only [runOps_true, runOps_false, runOps_nil]
              repeat (first | go_big_quiet_skip | (go_big_quiet_want; go_big_quiet_op; go_big_quiet_on))
              refine wpQuiet_nil ?_
              refine wpAnyH_done (by kernel_rfl) ?_ _
              refine NoPanic.normal ?_
              clear hfar1 hfar2 hfar3 hHeld hd
              go_wp2
              go_ret2
              exact ⟨HloadR.bad HBD.out, H5.out.bl⟩
            · have HTP : Hid (0 < x ∧ x ≤ topD d) := ⟨by have := HXZ.out; have := HL0.out.1; omega, by omega⟩
              clear htop HBAD2
              refine wpAnyH_ready (rs := [11]) (by kernel_rfl) (by simp) ?_
              refine AllReadyH.cons rfl (fun K hK => ?_) AllReadyH.nil
              go_simp
              go_wp2_with (go_at_call 47; refine (sprep_ok sp x d W4 HSP.out HTP.out.1 HTP.out.2).mono ?_; rintro e w5 ⟨⟨r, rfl, hr⟩, hb⟩)
              refine hK.out _ _ ?_ (fun hHeld => ?_)
              clear hK K
              · exact HeldS.mk' (HL4.out.keep (Frame.of_below (S := []) hb) (by simp) (by simp))
              have H5 := Lib.hid (H4.out.below hb)
              have HL5 := Lib.hid (HL4.out.keep (Frame.of_below (S := []) hb) (by simp) (by simp))
              have HS5 := Lib.hid (HST.out.below hb)
              have HP5 := Lib.hid fun W2 T => HP7.out w5 W2 T hb
              clear hb H4 HL4 HST HSP HP7
              have hr0 : (r == 0) = false := beq_eq_false_iff_ne.2 hr
              clear hr
              refine wpAnyH_run0 [false, false, false, false, false, false, false, false, false, false, false, false, true, true, true, true, true, true, true, true, true, true, true, true, true] 3 (by kernel_rfl) (by kernel_rfl) (fun _ _ _ _ h => h) (by kernel_rfl) hHeld ?_
              simp only [runOps_true, runOps_false, runOps_nil]
              repeat (first | go_big_quiet_skip | (go_big_quiet_want; go_big_quiet_op; go_big_quiet_on))
              refine wpQuiet_nil ?_
              clear hr0
              have HGD := HL0.out.2.1
              have HCNT : Hid (∀ v, stCode 4096 ((rowOf q0 q1 kk).take j) x y = v → v = 0 → (0 < y ∧ sumP ((rowOf q0 q1 kk).take j) + y ≤ 9223372036854775807)) := fun v hv h0 => by
                unfold stCode at hv
                by_cases hy : 0 < y
                · rw [if_pos hy] at hv
                  by_cases hr : stRoom 4096 ((rowOf q0 q1 kk).take j) x y
                  · exact ⟨hy, by have := hr.1; omega⟩
                  · rw [if_neg hr] at hv; omega
                · rw [if_neg hy] at hv; omega
              have HCN0 : Hid ((0 < y ∧ sumP ((rowOf q0 q1 kk).take j) + y ≤ 9223372036854775807) → RowIn (topD d) x ((rowOf q0 q1 kk).take (j + 1)) ∧ stCode 4096 ((rowOf q0 q1 kk).take j) x y = 0 ∧ stStep 4096 ((rowOf q0 q1 kk).take j) x y = (rowOf q0 q1 kk).take (j + 1)) := fun ⟨hy, hs⟩ => by
                obtain ⟨u1, u2⟩ := HSN.out HXZ.out HTP.out.2 hy hs
                have hroom : stRoom 4096 ((rowOf q0 q1 kk).take j) x y := ⟨by omega, by rw [u2]; have := HTL.out; omega⟩
                exact ⟨u1, by unfold stCode; rw [if_pos hy, if_pos hroom], by unfold stStep; rw [if_pos ⟨hy, hroom⟩, u2]⟩
              clear HGD
              obtain ⟨cd, hcd⟩ : ∃ cd, stCode 4096 ((rowOf q0 q1 kk).take j) x y = cd := ⟨_, rfl⟩
              have HCD := Lib.hid hcd
              by_cases hyy : 0 < y ∧ sumP ((rowOf q0 q1 kk).take j) + y ≤ 9223372036854775807
              · have HOKJ := Lib.hid (HCN0.out hyy)
                clear hyy hcd HCD HCN0 HCNT HBAD3 HBAD4
                refine wpAnyH_ready (rs := [25]) (by kernel_rfl) (by simp) ?_
                refine AllReadyH.cons rfl (fun K hK => ?_) AllReadyH.nil
                go_simp
                go_wp2_with (go_at_call 48; refine (sadd_any ck Sk 4096 _ x y w5 HS5.out HB.out.2.1 HB.out.2.2 HB.out.1).mono ?_; rintro e w6 ⟨rfl, T, hgT, hsT, hfT⟩; rw [HOKJ.out.2.1])
                refine hK.out _ _ ?_ (fun hHeld => ?_)
                clear hK K
                · exact HeldS.mk' (HL5.out.keep hfT HNB.out HGS.out)
                rw [HOKJ.out.2.2] at hsT
                have H6 := Lib.hid (HP5.out w6 T hgT hsT hfT)
                have HP6 : Hid (At w6 g2 #[.int .i64 x, .int .u64 y] 66) := hfT.at HL5.out.far.2 HGS.out
                clear hgT hsT hfT HP5 H5 HS5 HNB HSN HL5
                refine wpAnyH_run0 [false, false, false, false, false, false, false, false, false, false, false, false, false, false, false, false, false, false, false, false, false, false, false, false, false, false, true, true] 0 (by kernel_rfl) (by kernel_rfl) (fun _ _ _ _ h => h) (by kernel_rfl) hHeld ?_
                simp only [runOps_true, runOps_false, runOps_nil]
                repeat (first | go_big_quiet_skip | (go_big_quiet_want; go_big_quiet_op; go_big_quiet_on))
                refine wpQuiet_nil ?_
                refine wpAnyH_done (by kernel_rfl) ?_ _
                refine NoPanic.normal ?_
                clear hfar1 hfar2 hfar3 hHeld hd
                have f6 := HP6.out.two
                have l6 := HP6.out.lt
                go_wp2
                go_roundw
                case rel => exact ⟨j + 1, x, by omega, by simp, rfl, H6, HOKJ.out.1⟩
                case measure => simp [intOf]; omega
              · have HBD : Hid (¬ HloadOk d q0 q1 zero lo hi) := by
                  by_cases hy : 0 < y
                  · exact HBAD4.out (by omega)
                  · exact HBAD3.out (by omega)
                have hcd0 : ¬ cd = 0 := fun h0 => hyy (HCNT.out cd hcd h0)
                clear hyy hcd HCN0 HCNT HBAD3 HBAD4
                refine wpAnyH_ready (rs := [25]) (by kernel_rfl) (by simp) ?_
                refine AllReadyH.cons rfl (fun K hK => ?_) AllReadyH.nil
                go_simp
                go_wp2_with (go_at_call 48; refine (sadd_any ck Sk 4096 _ x y w5 HS5.out HB.out.2.1 HB.out.2.2 HB.out.1).mono ?_; rintro e w6 ⟨rfl, T, hgT, hsT, hfT⟩; rw [HCD.out])
                refine hK.out _ _ ?_ (fun hHeld => ?_)
                clear hK K
                · exact HeldS.mk' (HL5.out.keep hfT HNB.out HGS.out)
                have HB6 : Hid (Below w.heap.size w w6) := hfT.below' H5.out.bl H5.out.bl.size (fun m hm => ⟨HP6.out m hm, HS5.out.lt m hm⟩)
                clear hgT hsT hfT HP5 H5 HS5 HNB HSN HL5
                refine wpAnyH_run0 [false, false, false, false, false, false, false, false, false, false, false, false, false, false, false, false, false, false, false, false, false, false, false, false, false, false, true, true] 0 (by kernel_rfl) (by kernel_rfl) (fun _ _ _ _ h => h) (by kernel_rfl) hHeld ?_
                simp only [runOps_true, runOps_false, runOps_nil]
                repeat (first | go_big_quiet_skip | (go_big_quiet_want; go_big_quiet_op; go_big_quiet_on))
                refine wpQuiet_nil ?_
                refine wpAnyH_done (by kernel_rfl) ?_ _
                refine NoPanic.normal ?_
                clear hfar1 hfar2 hfar3 hHeld hd
                go_wp2
                go_ret2
                exact ⟨HloadR.bad HBD.out, HB6.out⟩
        · obtain rfl : j = len := by omega
          have HI2 : Hid (LdI w wr b sp d lim q0 q1 (kk + 1) 0) := HJ.out.next hlt (by have := HX.out.2.2; omega)
          have HOK2 : Hid (∀ i < kk + 1, RowOk (topD d) (rowOf q0 q1 i)) := fun i hi => by
            rcases (by omega : i < kk ∨ i = kk) with h | rfl
            · exact HOK.out i h
            · have := HIN.out.ok
              rwa [List.take_of_length_le (by have := HX.out.2.2; omega)] at this
          clear HJ HOK HIN HX hix
          go_wp2
          go_roundw
          case rel => exact ⟨kk + 1, by omega, by simp, HI2, HOK2⟩
          case measure => simp [intOf]; omega
    · obtain rfl : kk = 2 := by omega
      obtain ⟨c0, c1, S0, S1, hH, hW⟩ := HI.out.st
      have hH' : HdB wr b sp c0 c1 S0 S1 d lim q0 q1 0 0 0 := by unfold rowK at hH; simpa using hH
      have HW := Lib.hid hW
      have HR0 : Hid (RowOk (topD d) q0) := HOK.out 0 (by omega)
      have HR1 : Hid (RowOk (topD d) q1) := HOK.out 1 (by omega)
      have H1 : Hid (HdB wr.drew b sp c0 c1 S0 S1 d lim q0 q1 0 0 0) := hH'.below (Below.refl _ _).drew
      have HB1 : Hid (Below w.heap.size w wr.drew) := HI.out.bl.drew
      have HZS : Hid (wr.heap.size = wr.drew.heap.size) := rfl
      obtain ⟨T0, hT0⟩ : ∃ t, sumP q0 = t := ⟨_, rfl⟩
      obtain ⟨T1, hT1⟩ : ∃ t, sumP q1 = t := ⟨_, rfl⟩
      have HT : Hid ((0 ≤ T0 ∧ T0 ≤ 9223372036854775807) ∧ (0 ≤ T1 ∧ T1 ≤ 9223372036854775807)) := by
        have a0 := sumP_nonneg HR0.out.gd.pos
        have a1 := sumP_nonneg HR1.out.gd.pos
        have a2 := HR0.out.sm
        have a3 := HR1.out.sm
        rw [hT0] at a0 a2
        rw [hT1] at a1 a3
        exact ⟨⟨a0, a2⟩, a1, a3⟩
      have HT0 := Lib.hid hT0
      have HT1 := Lib.hid hT1
      clear HI HOK hH hH' hW hT0 hT1 hlt hkk
      go_wp2
      obtain ⟨W4, hW4⟩ : ∃ W, wr.drew = W := ⟨_, rfl⟩
      rw [hW4] at H1 HB1 HZS
      have s4 := H1.out.at'
      have hHeld : HeldS (HdW b #[.int .i64 d, .int .u64 lim, .pointer (some ⟨sp, 0, none⟩), .pointer (some ⟨c0, 0, none⟩), .pointer (some ⟨c1, 0, none⟩), .int .u64 0, .int .i64 0, .int .i64 0]) W4 := HeldS.mk' s4
      haveI hne : Nonempty (Held (HdW b #[.int .i64 d, .int .u64 lim, .pointer (some ⟨sp, 0, none⟩), .pointer (some ⟨c0, 0, none⟩), .pointer (some ⟨c1, 0, none⟩), .int .u64 0, .int .i64 0, .int .i64 0])) := ⟨⟨W4, s4⟩⟩
      have hfar := fun v : Held (HdW b #[.int .i64 d, .int .u64 lim, .pointer (some ⟨sp, 0, none⟩), .pointer (some ⟨c0, 0, none⟩), .pointer (some ⟨c1, 0, none⟩), .int .u64 0, .int .i64 0, .int .i64 0]) => v.held.at.eight
      refine wp_region_noPanic ?_
      refine wp_region_held_drew (S := HeldS (HdW b #[.int .i64 d, .int .u64 lim, .pointer (some ⟨sp, 0, none⟩), .pointer (some ⟨c0, 0, none⟩), .pointer (some ⟨c1, 0, none⟩), .int .u64 0, .int .i64 0, .int .i64 0])) (by kernel_rfl) (by rw [hW4]; exact hHeld) (fun _ => ?_)
      rw [hW4]
      clear hW4
      refine wpAnyH_run0 [true, true, true, true, true, false, true, true, true, true, true, false, true] 9 (by kernel_rfl) (by kernel_rfl) (fun _ _ _ _ h => h) (by kernel_rfl) hHeld ?_
      simp only [runOps_true, runOps_false, runOps_nil]
      repeat (first | go_big_quiet_skip | (go_big_quiet_want; go_big_quiet_op; go_big_quiet_on))
      refine wpQuiet_nil ?_
      refine wpAnyH_ready (rs := [5]) (by kernel_rfl) (by simp) ?_
      refine AllReadyH.cons rfl (fun K hK => ?_) AllReadyH.nil
      go_simp
      go_wp2_with (go_at_call 50; refine (stotal_any c0 S0 4096 q0 W4 H1.out.s0).mono ?_; rintro e w5 ⟨rfl, rfl⟩; rw [HT0.out])
      refine hK.out _ _ ?_ (fun hHeld => ?_)
      clear hK K
      · exact HeldS.mk' s4
      refine wpAnyH_ready (rs := [11]) (by kernel_rfl) (by simp) ?_
      refine AllReadyH.cons rfl (fun K hK => ?_) AllReadyH.nil
      go_simp
      go_wp2_with (go_at_call 50; refine (stotal_any c1 S1 4096 q1 W4 H1.out.s1).mono ?_; rintro e w5 ⟨rfl, rfl⟩; rw [HT1.out])
      refine hK.out _ _ ?_ (fun hHeld => ?_)
      clear hK K
      · exact HeldS.mk' s4
      have hba : Below W4.heap.size W4 (W4.alloc (.cells #[.int .u64 T0, .int .u64 T1, .int .u64 zero] 23)) := (Below.refl _ _).alloc (Nat.le_refl _) _
      have a5 := At.new W4 #[.int .u64 T0, .int .u64 T1, .int .u64 zero] 23
      have s5 := s4.below hba
      have H5 := Lib.hid (H1.out.below hba)
      have HB5 := Lib.hid (keep1 HB1.out hba)
      have HZ5 : Hid (wr.heap.size ≤ (W4.alloc (.cells #[.int .u64 T0, .int .u64 T1, .int .u64 zero] 23)).heap.size) := by have := HZS.out; have := hba.size; show _ ≤ _; omega
      refine wpAnyH_ready (rs := [13]) (by kernel_rfl) (by simp) ?_
      refine AllReadyH.cons rfl (fun K hK => ?_) (AllReadyH.nil)
      go_simp
      go_wp2
      refine hK.out _ _ (HeldS.mk' s5) (fun hHeld => ?_)
      clear hK K hba
      obtain ⟨g5, hg5⟩ : ∃ g, W4.heap.size = g := ⟨_, rfl⟩
      obtain ⟨W5, hW5⟩ : ∃ W, W4.alloc (.cells #[.int .u64 T0, .int .u64 T1, .int .u64 zero] 23) = W := ⟨_, rfl⟩
      rw [hW5] at a5 s5 H5 HB5 HZ5 hHeld
      rw [hg5] at a5
      simp only [hW5, hg5]
      have c50 : W5.cell? ⟨g5, 0, none⟩ = some (.int .u64 T0) := a5.cell rfl
      have c51 : W5.cell? ⟨g5, 1, none⟩ = some (.int .u64 T1) := a5.cell rfl
      have c52 : W5.cell? ⟨g5, 2, none⟩ = some (.int .u64 zero) := a5.cell rfl
      have HP3 := Lib.hid (plus3_any g5 T0 T1 zero W5 ⟨HT.out.1.1, by have := HT.out.1.2; omega⟩ ⟨HT.out.2.1, by have := HT.out.2.2; omega⟩ HZ.out.1 c50 c51 c52)
      clear hW5 hg5 a5 c50 c51 c52 s4 H1 HB1 HZS
      refine wpAnyH_ready (rs := [14]) (by kernel_rfl) (by simp) ?_
      refine AllReadyH.cons rfl (fun K hK => ?_) AllReadyH.nil
      go_simp
      go_wp2_with (go_at_call 49; refine HP3.out.mono ?_; rintro e w6 ⟨rfl, rfl⟩)
      refine hK.out _ _ ?_ (fun hHeld => ?_)
      clear hK K
      · exact HeldS.mk' s5
      clear HP3
      refine wpAnyH_run0 [false, false, false, false, false, false, false, false, false, false, false, false, false, false, false, true, true, true, true, true] 0 (by kernel_rfl) (by kernel_rfl) (fun _ _ _ _ h => h) (by kernel_rfl) hHeld ?_
      simp only [runOps_true, runOps_false, runOps_nil]
      repeat (first | go_big_quiet_skip | (go_big_quiet_want; go_big_quiet_op; go_big_quiet_on))
      refine wpQuiet_nil ?_
      refine wpAnyH_done (by kernel_rfl) ?_ _
      refine NoPanic.normal ?_
      clear hfar hne hHeld
      by_cases hs : T0 + T1 + zero ≤ 9223372036854775807
      · rw [decide_eq_true hs]
        have HS := Lib.hid hs
        have H6 := Lib.hid (H5.out.set (zero' := zero) (least' := 0) (most' := 0) 5 (.int .u64 zero) (H5.out.at'.set_any 5 _ rfl))
        have HB6 : Hid (Below w.heap.size w (W5.setCell ⟨b, 5, none⟩ (.int .u64 zero))) := HB5.out.setCell (HW.out b (by simp)).1 _
        have HZ6 : Hid (wr.heap.size ≤ (W5.setCell ⟨b, 5, none⟩ (.int .u64 zero)).heap.size) := by have := HZ5.out; show _ ≤ _; simpa [World.setCell] using this
        have f5 := s5.eight
        have l5 := s5.lt
        obtain ⟨pq, hpq⟩ : ∃ p, plus3Q T0 T1 zero = p := ⟨_, rfl⟩
        rw [hpq]
        clear hs hpq H5 HB5 HZ5 s5
        by_cases hle : hi < lo
        · have HBD : Hid (¬ HloadOk d q0 q1 zero lo hi) := fun k => by have := k.le; omega
          have hd : decide (hi < lo) = true := decide_eq_true hle
          clear hle
          go_wp2
          go_ret2
          exact ⟨HloadR.bad HBD.out, HB6.out⟩
        · have HLE : Hid (lo ≤ hi) := by show _ ≤ _; omega
          have hd : decide (hi < lo) = false := decide_eq_false hle
          clear hle
          obtain ⟨t, htt⟩ : ∃ t, T0 + zero + T1 = t := ⟨_, rfl⟩
          have HTT := Lib.hid htt
          have HTOT := Lib.hid fun W (hb : Below (W5.setCell ⟨b, 5, none⟩ (.int .u64 zero)).heap.size (W5.setCell ⟨b, 5, none⟩ (.int .u64 zero)) W) => htotal_at b sp c0 c1 S0 S1 d lim q0 q1 zero 0 0 W (H6.out.below hb) HZ.out.1.1 (by rw [HT0.out, HT1.out]; have := HS.out; omega)
          rw [HT0.out, HT1.out, htt] at HTOT
          clear htt
          go_wp2_with fail
          refine (HTOT.out _ (Below.refl _ _)).mono ?_
          rintro e w7 ⟨rfl, hb⟩
          have H7 := Lib.hid (H6.out.below hb)
          have HB7 := Lib.hid (keep1 HB6.out hb)
          have HZ7 : Hid (wr.heap.size ≤ w7.heap.size) := Nat.le_trans HZ6.out hb.size
          clear hb H6 HB6 HZ6 f5 l5 HTOT
          by_cases hbad : t = 0 ∧ (lo ≠ 0 ∨ hi ≠ 0)
          · have HBD : Hid (¬ HloadOk d q0 q1 zero lo hi) := fun k => by
              have h0 := k.z (by rw [HT0.out, HT1.out]; have := HTT.out; omega)
              omega
            obtain ⟨h0, h12⟩ := hbad
            rw [h0]
            clear h0
            by_cases hl0 : lo = 0
            · have hh0 : hi ≠ 0 := by omega
              clear h12
              subst hl0
              go_wp2
              go_ret2
              exact ⟨HloadR.bad HBD.out, HB7.out⟩
            · clear h12
              go_wp2
              go_ret2
              exact ⟨HloadR.bad HBD.out, HB7.out⟩
          · have HG : Hid (HloadOk d q0 q1 zero lo hi) := ⟨HR0.out, HR1.out, by rw [HT0.out, HT1.out]; exact HS.out, HLE.out, fun h0 => by
              rw [HT0.out, HT1.out] at h0
              have := HTT.out
              by_cases e1 : lo = 0
              · by_cases e2 : hi = 0
                · exact ⟨e1, e2⟩
                · exact absurd ⟨by omega, .inr e2⟩ hbad
              · exact absurd ⟨by omega, .inl e1⟩ hbad⟩
            have H8 := Lib.hid (H7.out.set (zero' := zero) (least' := lo) (most' := 0) 6 (.int .i64 lo) (H7.out.at'.set_any 6 _ rfl))
            have H9 := Lib.hid (H8.out.set (zero' := zero) (least' := lo) (most' := hi) 7 (.int .i64 hi) (H8.out.at'.set_any 7 _ rfl))
            have HB9 : Hid (Below w.heap.size w ((w7.setCell ⟨b, 6, none⟩ (.int .i64 lo)).setCell ⟨b, 7, none⟩ (.int .i64 hi))) := (HB7.out.setCell (HW.out b (by simp)).1 _).setCell (HW.out b (by simp)).1 _
            have HZ9 : Hid (wr.heap.size ≤ ((w7.setCell ⟨b, 6, none⟩ (.int .i64 lo)).setCell ⟨b, 7, none⟩ (.int .i64 hi)).heap.size) := by have := HZ7.out; show _ ≤ _; simpa [World.setCell] using this
            have HFIN : Hid (HloadR d lim q0 q1 zero lo hi w (.returned (.tuple #[.pointer (some ⟨b, 0, none⟩), .int .i64 0])) ((w7.setCell ⟨b, 6, none⟩ (.int .i64 lo)).setCell ⟨b, 7, none⟩ (.int .i64 hi))) :=
              .inl ⟨HG.out, b, _, rfl, HW.out.mono HZ9.out, sp, c0, c1, S0, S1, rfl, H9.out⟩
            have f7 := H7.out.at'.eight
            have l7 := H7.out.at'.lt
            clear H7 H8 H9 HB7 HZ7 HZ9 HG
            by_cases ht0 : t = 0
            · have hl0 : lo = 0 := by
                by_cases e : lo = 0
                · exact e
                · exact absurd ⟨ht0, .inl e⟩ hbad
              have hh0 : hi = 0 := by
                by_cases e : hi = 0
                · exact e
                · exact absurd ⟨ht0, .inr e⟩ hbad
              rw [ht0]
              clear hbad ht0 HTT
              have HL0 := Lib.hid hl0
              have HH0 := Lib.hid hh0
              have d1 : (lo == 0) = true := beq_iff_eq.2 hl0
              have d2 : (hi == 0) = true := beq_iff_eq.2 hh0
              have d3 : (lo != 0) = false := by rw [hl0]; rfl
              have d4 : (hi != 0) = false := by rw [hh0]; rfl
              clear hl0 hh0
              go_wp2
              go_ret2
              exact ⟨HFIN.out, HB9.out⟩
            · clear hbad HTT
              go_wp2
              go_ret2
              exact ⟨HFIN.out, HB9.out⟩
      · rw [decide_eq_false hs]
        have HBD : Hid (¬ HloadOk d q0 q1 zero lo hi) := fun k => by have := k.sm; rw [HT0.out, HT1.out] at this; exact hs this
        have HB6 : Hid (Below w.heap.size w (W5.setCell ⟨b, 5, none⟩ (.int .u64 zero))) := HB5.out.setCell (HW.out b (by simp)).1 _
        obtain ⟨pq, hpq⟩ : ∃ p, plus3Q T0 T1 zero = p := ⟨_, rfl⟩
        rw [hpq]
        have f5 := s5.eight
        have l5 := s5.lt
        clear hs hpq H5 HB5 HZ5 s5
        go_wp2
        go_ret2
        exact ⟨HloadR.bad HBD.out, HB6.out⟩
end Go.Proofs.YtnkkdciecjhpoaaDoor
