/- Texts of this claim, joined, indents halved: QuillP, Bytes, CrcP, SignZ, Quill, Eye, EyeB, FrameC. -/
import Derived.Test.YtlbnlmhcpephbaaGreatDoorProg
import Derived.Maps.AppendAt
import Derived.OwnWalk
import Derived.Below
import Derived.Lib.AppendStr
import Derived.Laws.IdiomStrings
import Derived.Laws.Bits64
import Derived.Laws.Bits64b
import Derived.Lib.EndianBits
import Derived.Lib.Zigzag
import Derived.Lib.VarintBits
import Derived.ScopeJumps
import Derived.Test.YtlbnlmhcpephbaaGreatDoorKc11
namespace Go.Proofs.YtlbnlmhcpephbaaGreatDoor
def natB (u : Nat) : List UInt8 := if u < 128 then [UInt8.ofNat u] else UInt8.ofNat (u % 128 + 128) :: natB (u / 128)
termination_by u
decreasing_by omega
theorem natB_lo {u : Nat} (h : u < 128) : natB u = [UInt8.ofNat u] := by rw [natB, if_pos h]
theorem natB_hi {u : Nat} (h : ¬ u < 128) : natB u = UInt8.ofNat (u % 128 + 128) :: natB (u / 128) := by rw [natB, if_neg h]
theorem natB_len {u : Nat} (h : u < 18446744073709551616) : (natB u).length ≤ 10 := by
  have key : ∀ k u : Nat, u < 128 ^ (k + 1) → (natB u).length ≤ k + 1 := by
    intro k
    induction k with
    | zero => intro u hu; rw [natB_lo (by omega)]; simp
    | succ k ih =>
      intro u hu
      by_cases h : u < 128
      · rw [natB_lo h]; simp
      · rw [natB_hi h, List.length_cons]
        have := ih (u / 128) (by
          rw [Nat.pow_succ] at hu
          exact Nat.div_lt_of_lt_mul (by rw [Nat.mul_comm]; exact hu))
        omega
  exact key 9 u (Nat.lt_of_lt_of_le h (by decide))
theorem natB_cons (u : Nat) : ∃ b : Nat, b < 256 ∧ b % 128 = u % 128 ∧ ((b < 128 ∧ u < 128 ∧ b = u ∧ natB u = [UInt8.ofNat b]) ∨ (128 ≤ b ∧ 128 ≤ u ∧ natB u = UInt8.ofNat b :: natB (u / 128))) := by
 by_cases h : u < 128
 ·exact ⟨u, by omega, rfl, .inl ⟨h, h, rfl, natB_lo h⟩⟩
 ·exact ⟨u % 128 + 128, by omega, by omega, .inr ⟨by omega, by omega, natB_hi h⟩⟩
theorem byte_toNat {b : Nat} (h : b < 256) : (UInt8.ofNat b).toNat = b := by
 rw [UInt8.toNat_ofNat']
 exact Nat.mod_eq_of_lt h
def zigN (x : Int) : Nat := if x < 0 then (-2 * x - 1).toNat else (2 * x).toNat
def zagI (u : Nat) : Int := if u % 2 = 1 then -((u / 2 : Nat) : Int) - 1 else ((u / 2 : Nat) : Int)
theorem zag_zig (x : Int) : zagI (zigN x) = x := by
 unfold zagI zigN
 split <;> split <;> omega
theorem zig_lt {x : Int} (h1 : -9223372036854775808 ≤ x) (h2 : x ≤ 9223372036854775807) : zigN x < 18446744073709551616 := by
 unfold zigN
 split <;> omega
def natsB (l : List Nat) : List UInt8 := l.flatMap natB
def intsB (l : List Int) : List UInt8 := l.flatMap fun x => natB (zigN x)
theorem natsB_cons (u : Nat) (l : List Nat) : natsB (u :: l) = natB u ++ natsB l := rfl
theorem natsB_app (l k : List Nat) : natsB (l ++ k) = natsB l ++ natsB k := List.flatMap_append
theorem intsB_app (l k : List Int) : intsB (l ++ k) = intsB l ++ intsB k := List.flatMap_append
theorem natsB_len : ∀ {l : List Nat}, (∀ u ∈ l, u < 18446744073709551616) → (natsB l).length ≤ 10 * l.length
  | [], _ => by simp [natsB]
  | u :: l, h => by
    have h1 := natB_len (h u (by simp))
    have h2 := natsB_len (l := l) fun y hy => h y (by simp [hy])
    rw [natsB_cons, List.length_append, List.length_cons]; omega
def pairsB : Option Int → List (Int × Int) → List UInt8
 | _, [] => []
 | none, x :: l => natB (zigN x.1) ++ natB x.2.toNat ++ pairsB (some x.1) l
 | some p, x :: l => natB (x.1 - p - 1).toNat ++ natB x.2.toNat ++ pairsB (some x.1) l
def rowB (l : List (Int × Int)) : List UInt8 := natB l.length ++ pairsB none l
def txt (l : List UInt8) : ByteArray := ⟨l.toArray⟩
theorem txt_size (l : List UInt8) : (txt l).size = l.length := by simp [txt, ByteArray.size]
theorem txt_extract (l : List UInt8) (a b : Nat) : (txt l).extract a b = txt ((l.take b).drop a) := by
 apply ByteArray.ext
 simp [txt, ByteArray.data_extract, List.drop_take]
end Go.Proofs.YtlbnlmhcpephbaaGreatDoor

namespace Go.Proofs.YtlbnlmhcpephbaaGreatDoor
open Go.RowKit
def cellsY (l : List UInt8) : List Value := l.map fun b => .int .u8 (b.toNat : Int)
theorem cellsY_app (l k : List UInt8) : cellsY (l ++ k) = cellsY l ++ cellsY k := List.map_append
def OwnY (base : Nat) (w : World) (A : Option Addr) (cap : Nat) (l : List UInt8) : Prop := w.ownsRow base 5 1 (.slice A l.length cap) l.length (cellsY l)
theorem OwnY.nil (base : Nat) (w : World) : OwnY base w none 0 [] := World.ownsRow_nil w base _ 1
theorem OwnY.base_le {base cap : Nat} {w : World} {A : Option Addr} {l : List UInt8} (h : OwnY base w A cap l) : ∀ g, A = some g → base ≤ g.block ∧ g.block < w.heap.size := by
 rintro g rfl
 exact World.ownsRow.lt h g.block rfl
theorem OwnY.blk_le {base c : Nat} {w : World} {A : Option Addr} {l : List UInt8} (h : OwnY base w A c l) : ∀ k ∈ blk A, base ≤ k ∧ k < w.heap.size := by
 intro k hk
 cases A with
 | none => simp [blk] at hk
 | some a => simp only [blk, List.mem_singleton] at hk; subst hk; exact h.base_le a rfl
theorem OwnY.frame {base c : Nat} {w w' : World} {T : List Nat} {A : Option Addr} {l : List UInt8} (h : OwnY base w A c l) (hf : Frame T w w') (hn : ∀ k ∈ blk A, k ∉ T) : OwnY base w' A c l := by
 obtain ⟨h1, h2⟩ := h
 refine ⟨h1, ?_⟩
 rcases h2 with h2 | ⟨g, cp, cur, e, hg, hc, r⟩
 ·exact .inl h2
 ·refine .inr ⟨g, cp, cur, e, hg, (hf.block g (Array.getElem?_eq_some_iff.1 hc).1 (hn g ?_)).trans hc, r⟩
  simp only [Value.slice.injEq] at e
  rw [e.1]
  simp [blk]
theorem OwnY.below {base c : Nat} {w w' : World} {A : Option Addr} {l : List UInt8} (h : OwnY base w A c l) (hb : Below w.heap.size w w') : OwnY base w' A c l := h.frame (T := []) (Frame.of_below hb) (fun _ _ => by simp)
theorem OwnY.cell {base cap : Nat} {w : World} {A : Option Addr} {l : List UInt8} (h : OwnY base w A cap l) (hl : l ≠ []) : ∃ g, A = some ⟨g, 0, none⟩ ∧ ∀ j (hj : j < l.length), w.cell? ((⟨g, 0, none⟩ : Addr).add j) = some (.int .u8 (l[j].toNat : Int)) := by
 rcases h.2 with ⟨e, hn⟩ | ⟨g, c, cur, e, hg, hc, r⟩
 ·exact absurd (List.eq_nil_of_length_eq_zero hn) hl
 ·injection e with e1 e2 e3
  subst e1
  refine ⟨g, rfl, fun j hj => ?_⟩
  exact World.ownsRow.cells h (g := g) rfl j _ (by simp [cellsY, List.getElem?_map, List.getElem?_eq_getElem hj])
theorem Tryz.underlyingY : Tryz.prog.underlying 191 = some (.slice 5) := by kernel_rfl
theorem Tryz.infoY : (Tryz.prog.info? 5).map (fun i => (i.zero, i.size, i.bytes)) = some (some (.int .u8 0), 1, 1) := by kernel_rfl
theorem Tryz.infoYE : ∃ i, Tryz.prog.info? 5 = some i ∧ i.zero = some (.int .u8 0) ∧ i.size = 1 ∧ i.bytes = 1 := by
  have := Tryz.infoY
  cases hh : Tryz.prog.info? 5 with
  | none => rw [hh] at this; cases this
  | some i =>
    rw [hh] at this
    simp only [Option.map_some, Option.some.injEq, Prod.mk.injEq] at this
    exact ⟨i, rfl, this.1, this.2.1, this.2.2⟩
theorem Frame.of_grownY {w w' : World} {A : Option Addr} {n c : Nat} (hg : w.grownBy w' (Value.slice A n c).ownBlock) : Frame (blk A) w w' :=
 ⟨hg.os, hg.tape, hg.output, hg.size, fun k hk hn => hg.block k hk fun e => hn (by
  cases A with
  | none => simp [Value.ownBlock] at e
  | some a => simp [Value.ownBlock] at e; simp [blk, e])⟩
theorem wpList_append_y {ops : Array Oper} {rest : List Oper} {o : Oper} {a : Act} {Q : Exit → Act → World → Prop} {w : World} (hgd : o.guard = none) (s x : Operand)
  (ho : o.op = .call { callee := .builtin .append, args := #[s, x], argTypes := #[191, 191] })
  (base : Nat) (A : Option Addr) (cap n : Nat) (l : List UInt8) (hs : a.eval s = .slice A n cap) (hn : l.length = n) (hown : OwnY base w A cap l)
  (ad : Addr) (c : Nat) (b : UInt8) (p : Int) (hp : p = (b.toNat : Int)) (hx : a.eval x = .slice (some ad) 1 c) (h0 : w.cell? (ad.add 0) = some (.int .u8 p))
  (hlen : n ≤ 1099511627776) (hbase : base ≤ w.heap.size)
  (h : ∀ A' cap' w', Hid (OwnY base w' A' cap' (l ++ [b])) → Hid (Frame (blk A) w w') → Hid (∀ k ∈ blk A', k ∈ blk A ∨ w.heap.size ≤ k) → wpList Tryz.prog ops Q rest (a.put o.dst (.slice A' (n + 1) cap')) w') :
  wpList Tryz.prog ops Q (o :: rest) a w := by
 subst hn hp
 obtain ⟨i, hi, hz, hsz, hby⟩ := Tryz.infoYE
 refine wpList_append_own_at w hgd s x _ ho base _ i _ 1 1 Tryz.underlyingY hi hz hsz hby rfl (by decide) _ l.length (cellsY l) hs hown ad 1 c [.int .u8 (b.toNat : Int)] hx rfl ?_ ?_ (by simp only [maxLen]; omega) (by omega) hbase ?_
 ·intro j u hj
  match j, hj with
  | 0, hj => simp only [List.getElem?_cons_zero, Option.some.injEq] at hj; subst hj; exact h0
 ·intro u hu
  simp only [List.mem_singleton] at hu
  subst hu; rfl
 ·intro v' w' hown' hg _ hblk
  have hl : (l ++ [b]).length = l.length + 1 := by simp
  have hm : cellsY (l ++ [b]) = cellsY l ++ [.int .u8 (b.toNat : Int)] := cellsY_app l [b]
  rw [← hm] at hown'
  rcases hown'.2 with ⟨e, hn⟩ | ⟨g, cp, cur, rfl, r⟩
  ·omega
  ·refine h _ _ _ (by show OwnY _ _ _ _ _; unfold OwnY; rw [hl]; exact hown') (Frame.of_grownY hg) fun k hk => ?_
   simp only [blk, List.mem_singleton] at hk
   subst hk
   simp only [Value.ownBlock] at hblk
   rcases hblk with hblk | hblk
   ·left
    cases A with
    | none => simp at hblk
    | some a => simp only [Option.some.injEq] at hblk; simp [blk, hblk]
   ·right
    simp only [Option.some.injEq] at hblk
    omega
theorem strCells_txt (l : List UInt8) : Lib.strCells (txt l) = cellsY l := by simp [Lib.strCells, txt, cellsY]
theorem wpList_append_ys {ops : Array Oper} {rest : List Oper} {o : Oper} {a : Act} {Q : Exit → Act → World → Prop} {w : World} (hgd : o.guard = none) (s x : Operand)
  (ho : o.op = .call { callee := .builtin .append, args := #[s, x], argTypes := #[191, 9] })
  (base : Nat) (A : Option Addr) (cap n : Nat) (l : List UInt8) (hs : a.eval s = .slice A n cap) (hn : l.length = n) (hown : OwnY base w A cap l)
  (k : List UInt8) (st : ByteArray) (hst : st = txt k) (m : Nat) (hm : k.length = m) (hx : a.eval x = .string st)
  (hlen : n + m ≤ 1099511627776) (hbase : base ≤ w.heap.size)
  (h : ∀ A' cap' w', Hid (OwnY base w' A' cap' (l ++ k)) → Hid (Frame (blk A) w w') → wpList Tryz.prog ops Q rest (a.put o.dst (.slice A' (n + m) cap')) w') :
  wpList Tryz.prog ops Q (o :: rest) a w := by
 subst hn hst hm
 obtain ⟨i, hi, hz, hsz, hby⟩ := Tryz.infoYE
 refine Lib.wpList_append_own_string w hgd s x _ _ ho base _ i Tryz.underlyingY Tryz.underlying9 hi hz hsz hby _ l.length (cellsY l) hs hown (txt k) hx (by rw [txt_size]; simp only [maxLen]; omega) (by rw [txt_size]; omega) hbase ?_
 intro v' w' hown' hg hnil
 rw [strCells_txt, ← cellsY_app, txt_size] at hown'
 have hl : (l ++ k).length = l.length + k.length := by simp
 rcases hown'.2 with ⟨e, hn⟩ | ⟨g, cp, cur, rfl, r⟩
 ·have := h none 0 w' (by show OwnY _ _ _ _ _; unfold OwnY; rw [hl, hn]; rw [e, hn] at hown'; exact hown') (Frame.of_grownY hg)
  rw [hn] at this
  rw [e]
  exact this
 ·exact h _ _ _ (by show OwnY _ _ _ _ _; unfold OwnY; rw [hl]; exact hown') (Frame.of_grownY hg)
theorem run_text {base cap : Nat} {w : World} {A : Option Addr} {l : List UInt8} (h : OwnY base w A cap l) (hl : l ≠ []) (src : TypeId) (hs : src = 191) : (convert src 9 (.slice A l.length cap)).run Tryz.prog w = .ok (.string (txt l)) w := by
 subst hs
 obtain ⟨g, rfl, hc⟩ := h.cell hl
 exact run_convert_bytes_back w _ _ _ ⟨g, 0, none⟩ cap l Tryz.underlyingY (by kernel_rfl) Tryz.underlying9 hc
end Go.Proofs.YtlbnlmhcpephbaaGreatDoor

namespace Go.Proofs.YtlbnlmhcpephbaaGreatDoor
theorem bits_u32 (op : BinOp) (x y : Int) : 0 ≤ bits op .u32 x y ∧ bits op .u32 x y < 4294967296 := by
 unfold bits
 rw [IntKind.wrap_u32]
 omega
theorem u32_and1 (x : Int) (h₀ : 0 ≤ x) (h₁ : x < 4294967296) : bits .and .u32 x 1 = x % 2 := by
 have h := bits_mask .u32 32 (by decide) wraps_u32 1 (by decide) x h₀ (by omega)
 simpa using h
def crcBit (c : Int) : Int := if c % 2 = 1 then bits .xor .u32 (c / 2) 3988292384 else c / 2
theorem crcBit_bd {c : Int} (h : 0 ≤ c ∧ c < 4294967296) : 0 ≤ crcBit c ∧ crcBit c < 4294967296 := by
 unfold crcBit
 split
 ·exact bits_u32 _ _ _
 ·omega
def crcN : Nat → Int → Int
 | 0, c => c
 | n + 1, c => crcBit (crcN n c)
theorem crcN_bd {c : Int} (h : 0 ≤ c ∧ c < 4294967296) : ∀ n, 0 ≤ crcN n c ∧ crcN n c < 4294967296
 | 0 => h
 | n + 1 => crcBit_bd (crcN_bd h n)
def crcByte (c : Int) (b : Int) : Int := crcN 8 (bits .xor .u32 c b)
theorem crcByte_bd (c b : Int) : 0 ≤ crcByte c b ∧ crcByte c b < 4294967296 := crcN_bd (bits_u32 _ _ _) 8
def crcAll (l : List UInt8) : Int := l.foldl (fun c b => crcByte c (b.toNat : Int)) 4294967295
theorem crcAll_bd (l : List UInt8) : 0 ≤ crcAll l ∧ crcAll l < 4294967296 := by
 have key : ∀ (l : List UInt8) (c : Int), 0 ≤ c ∧ c < 4294967296 → 0 ≤ l.foldl (fun c b => crcByte c (b.toNat : Int)) c ∧ l.foldl (fun c b => crcByte c (b.toNat : Int)) c < 4294967296 := by
  intro l
  induction l with
  | nil => intro c h; exact h
  | cons b l ih => intro c _; exact ih _ (crcByte_bd _ _)
 exact key l _ (by omega)
theorem crcAll_take (l : List UInt8) (k : Nat) (hk : k < l.length) : crcAll (l.take (k + 1)) = crcByte (crcAll (l.take k)) ((l[k]'hk).toNat : Int) := by
 unfold crcAll
 rw [List.take_succ_eq_append_getElem hk, List.foldl_append]
 rfl
def sumY (l : List UInt8) : Int := bits .xor .u32 4294967295 (crcAll l)
theorem sumY_bd (l : List UInt8) : 0 ≤ sumY l ∧ sumY l < 4294967296 := bits_u32 _ _ _
def fourY (c : Int) : List UInt8 := [UInt8.ofNat (c % 256).toNat, UInt8.ofNat (c / 256 % 256).toNat, UInt8.ofNat (c / 65536 % 256).toNat, UInt8.ofNat (c / 16777216 % 256).toNat]
theorem fourY_len (c : Int) : (fourY c).length = 4 := rfl
theorem byteI {x : Int} (h0 : 0 ≤ x) (h1 : x < 256) : ((UInt8.ofNat x.toNat).toNat : Int) = x := by
 rw [byte_toNat (by omega)]; omega
def frameY (kind : Nat) (load : List UInt8) : List UInt8 :=
 let t := [79, 71, 1] ++ [UInt8.ofNat kind] ++ natB load.length ++ load
 t ++ fourY (sumY t)
end Go.Proofs.YtlbnlmhcpephbaaGreatDoor

namespace Go.Proofs.YtlbnlmhcpephbaaGreatDoor
open Go.RowKit
theorem xor_u64_ones (a : Int) (h0 : 0 ≤ a) (h1 : a < 18446744073709551616) : bits .xor .u64 a 18446744073709551615 = 18446744073709551615 - a := by
 obtain ⟨n, rfl⟩ := Int.eq_ofNat_of_zero_le h0
 have e : (18446744073709551615 : Int) = ((2 ^ 64 - 1 : Nat) : Int) := by decide
 rw [e, bits_xor_u64_nat _ _ (by omega) (by decide), Nat.xor_comm, Lib.xor_ones64 _ (by omega)]
 omega
theorem xor_u64_zero (a : Int) (h0 : 0 ≤ a) (h1 : a < 18446744073709551616) : bits .xor .u64 a 0 = a := by
 obtain ⟨n, rfl⟩ := Int.eq_ofNat_of_zero_le h0
 have := bits_xor_u64_nat n 0 (by omega) (by decide)
 rw [Nat.xor_zero] at this
 exact this
theorem xor_i64_zero (a : Int) (h0 : 0 ≤ a) (h1 : a < 9223372036854775808) : bits .xor .i64 a 0 = a := by
 obtain ⟨n, rfl⟩ := Int.eq_ofNat_of_zero_le h0
 show IntKind.i64.wrap ((BitVec.ofInt 64 (n : Int) ^^^ BitVec.ofInt 64 0).toNat : Int) = _
 have h2 : (BitVec.ofInt 64 (n : Int)).toNat = n := by
  rw [BitVec.ofInt_natCast, BitVec.toNat_ofNat]; exact Nat.mod_eq_of_lt (by omega)
 have h3 : (BitVec.ofInt 64 (0 : Int)).toNat = 0 := by decide
 rw [BitVec.toNat_xor, h2, h3, Nat.xor_zero, IntKind.wrap_i64]
 omega
theorem xor_i64_neg (a : Int) (h0 : 0 ≤ a) (h1 : a < 9223372036854775808) : bits .xor .i64 a (-1) = -a - 1 := by
 obtain ⟨n, rfl⟩ := Int.eq_ofNat_of_zero_le h0
 rw [← Lib.i64_not n (by omega)]
 show IntKind.i64.wrap ((BitVec.ofInt 64 (n : Int) ^^^ BitVec.ofInt 64 (-1)).toNat : Int) = IntKind.i64.wrap ((BitVec.ofInt 64 (-1) ^^^ BitVec.ofInt 64 (n : Int)).toNat : Int)
 rw [BitVec.xor_comm]
theorem zig_any (x : Int) (w : World) (h1 : -9223372036854775808 ≤ x) (h2 : x ≤ 9223372036854775807) :
  Calls Tryz.prog 206 #[.int .i64 x] w fun e w' => e = .returned (.int .u64 (zigN x : Nat)) ∧ w = w' := by
 have HZ : Hid (bits .xor .u64 (IntKind.u64.wrap (IntKind.u64.wrap x * 2)) (IntKind.u64.wrap (x / 9223372036854775808)) = (zigN x : Nat)) := by
  show _ = _
  rw [IntKind.wrap_u64, IntKind.wrap_u64, IntKind.wrap_u64]
  unfold zigN
  by_cases h : x < 0
  ·rw [if_pos h, show x / 9223372036854775808 % 18446744073709551616 = 18446744073709551615 by omega, xor_u64_ones _ (by omega) (by omega)]
   omega
  ·rw [if_neg h, show x / 9223372036854775808 % 18446744073709551616 = 0 by omega, xor_u64_zero _ (by omega) (by omega)]
   omega
 go_enter Tryz.func206, Tryz.ntmps206
 go_wp2
 go_ret
 exact ⟨by rw [← HZ.out]; rfl, rfl⟩
theorem zag_any (u : Nat) (w : World) (h : u < 18446744073709551616) :
  Calls Tryz.prog 100 #[.int .u64 (u : Int)] w fun e w' => e = .returned (.int .i64 (zagI u)) ∧ w = w' := by
 have HZ : Hid (bits .xor .i64 ((u : Int) / 2) (wrap64 (-wrap64 (bits .and .u64 u 1))) = zagI u) := by
  show _ = _
  rw [Lib.u64_and1 _ (by omega) (by omega)]
  unfold zagI
  by_cases h1 : u % 2 = 1
  ·rw [if_pos h1, show (u : Int) % 2 = 1 by omega, show wrap64 (-wrap64 1) = -1 by simp [wrap64], xor_i64_neg _ (by omega) (by omega)]
   omega
  ·rw [if_neg h1, show (u : Int) % 2 = 0 by omega, show wrap64 (-wrap64 0) = 0 by simp [wrap64], xor_i64_zero _ (by omega) (by omega)]
   omega
 go_enter Tryz.func100, Tryz.ntmps100
 go_wp2
 go_ret
 exact ⟨by rw [← HZ.out]; rfl, rfl⟩
end Go.Proofs.YtlbnlmhcpephbaaGreatDoor

namespace Go.Proofs.YtlbnlmhcpephbaaGreatDoor
open Go.RowKit
structure Qu (w : World) (b : Nat) (A : Option Addr) (len cap : Nat) (l : List UInt8) : Prop where
 at' : At w b #[.slice A len cap] 193
 own : OwnY (b + 1) w A cap l
 len : l.length = len
structure QuI (w0 W : World) (b : Nat) (A0 A : Option Addr) (len cap : Nat) (l : List UInt8) : Prop where
 qu : Qu W b A len cap l
 fr : Frame (b :: blk A0) w0 W
 bl : ∀ j ∈ blk A, j ∈ blk A0 ∨ w0.heap.size ≤ j
section
variable {w0 W W' : World} {b len len' cap cap' : Nat} {A0 A A' : Option Addr} {l l' : List UInt8}
theorem Qu.below (h : Qu W b A len cap l) (hb : Below W.heap.size W W') : Qu W' b A len cap l := ⟨h.at'.below hb, h.own.below hb, h.len⟩
theorem QuI.start (h : Qu W b A len cap l) : QuI W W b A A len cap l := ⟨h, Frame.refl _ _, fun _ h => .inl h⟩
theorem QuI.below (h : QuI w0 W b A0 A len cap l) (hb : Below W.heap.size W W') : QuI w0 W' b A0 A len cap l := ⟨h.qu.below hb, h.fr.trans (Frame.of_below hb), h.bl⟩
theorem QuI.nb (h : Qu W b A len cap l) : b ∉ blk A := fun hm => by have := (OwnY.blk_le h.own b hm).1; omega
theorem QuI.app (h : QuI w0 W b A0 A len cap l) (ho : OwnY (b + 1) W' A' cap' l') (hl : l'.length = len') (hF : Frame (blk A) W W') (hB : ∀ j ∈ blk A', j ∈ blk A ∨ W.heap.size ≤ j) :
  QuI w0 (W'.setCell ⟨b, 0, none⟩ (.slice A' len' cap')) b A0 A' len' cap' l' := by
 have ha := hF.at h.qu.at' (QuI.nb h.qu)
 have hS := Frame.set [b] W' b 0 (.slice A' len' cap') (by simp)
 refine ⟨⟨ha.set_any 0 _ rfl, OwnY.frame ho hS fun j hj hm => by have := (OwnY.blk_le ho j hj).1; simp only [List.mem_singleton] at hm; omega, hl⟩, ?_, fun j hj => ?_⟩
 ·refine ⟨hS.os.trans (hF.os.trans h.fr.os), hS.tape.trans (hF.tape.trans h.fr.tape), hS.output.trans (hF.output.trans h.fr.output), Nat.le_trans h.fr.size (Nat.le_trans hF.size hS.size), fun k hk hn => ?_⟩
  have hkW := Nat.lt_of_lt_of_le hk h.fr.size
  refine (hS.block k (Nat.lt_of_lt_of_le hkW hF.size) fun hm => hn ?_).trans ((hF.block k hkW fun hm => ?_).trans (h.fr.block k hk hn))
  ·simp only [List.mem_singleton] at hm; simp [hm]
  ·rcases h.bl k hm with h1 | h1
   ·exact hn (by simp [h1])
   ·omega
 ·rcases hB j hj with h1 | h1
  ·exact h.bl j h1
  ·exact .inr (Nat.le_trans h.fr.size h1)
theorem QuI.trans {w1 : World} {A1 : Option Addr} {len1 cap1 : Nat} {l1 : List UInt8} (h : QuI w0 w1 b A0 A1 len1 cap1 l1) (k : QuI w1 W b A1 A len cap l) : QuI w0 W b A0 A len cap l := by
 refine ⟨k.qu, ⟨k.fr.os.trans h.fr.os, k.fr.tape.trans h.fr.tape, k.fr.output.trans h.fr.output, Nat.le_trans h.fr.size k.fr.size, fun j hj hn => ?_⟩, fun j hj => ?_⟩
 ·refine (k.fr.block j (Nat.lt_of_lt_of_le hj h.fr.size) fun hm => ?_).trans (h.fr.block j hj hn)
  rcases List.mem_cons.1 hm with rfl | hm
  ·exact hn (by simp)
  ·rcases h.bl j hm with h1 | h1
   ·exact hn (by simp [h1])
   ·omega
 ·rcases k.bl j hj with h1 | h1
  ·exact h.bl j h1
  ·exact .inr (Nat.le_trans h.fr.size h1)
end
theorem hRd_at {w W : World} {T : List Nat} {L : Option Addr} {us : List Nat} {k u : Nat} (h : RdU w L (us.map fun u : Nat => (u : Int))) (hF : Frame T w W) (hL : ∀ g, L = some g → g.block ∉ T) (hk : us[k]? = some u) : ∃ g o, L = some ⟨g, o, none⟩ ∧ g < W.heap.size ∧ W.cell? ⟨g, o + k, none⟩ = some (.int .u64 (u : Int)) :=
 Frame.rd hF h hL k (.int .u64 (u : Int)) (by simp [List.getElem?_map, hk])
theorem new_y (W : World) (v : Value) (T : TypeId) (g : Nat) (hg : g = W.heap.size) : (W.alloc (.cells #[v] T)).cell? ((⟨g, 0, none⟩ : Addr).add 0) = some v := by
 rw [Addr.add_lit]; exact (At.new' W #[v] T hg).cell (i := 0) rfl
set_option maxRecDepth 100000 in
set_option maxHeartbeats 2000000 in
theorem qnat_any (b : Nat) (A : Option Addr) (len cap : Nat) (l : List UInt8) (L : Option Addr) (n cL : Nat) (us : List Nat) (w : World) (h : Qu w b A len cap l) (hn : us.length = n) (hm : n ≤ 1000000) (hlen : len ≤ 1000000000) (hR : RdU w L (us.map fun u : Nat => (u : Int))) (hu : ∀ u ∈ us, u < 18446744073709551616) (hL : ∀ g, L = some g → g.block ∉ b :: blk A) :
  Calls Tryz.prog 96 #[.pointer (some ⟨b, 0, none⟩), .slice L n cL] w fun e w' => e = .returned (.tuple #[]) ∧ ∃ A' len' cap', QuI w w' b A A' len' cap' (l ++ natsB us) := by
 have HR := Lib.hid hR
 have HU := Lib.hid hu
 have HN := Lib.hid hn
 have HL := Lib.hid hL
 have HLL := Lib.hid h.len
 have HS0 : Hid (QuI w w b A A len cap (l ++ natsB (us.take 0))) := by
  show QuI _ _ _ _ _ _ _ _
  rw [List.take_zero]
  simp only [natsB, List.flatMap_nil, List.append_nil]
  exact QuI.start h
 clear hR hu hn h hL
 go_enter Tryz.func96, Tryz.ntmps96
 go_wp2
 go_loopw [5, 8] (fun _ i wr => ∃ k : Nat, k ≤ n ∧ i = .int .i64 k ∧ ∃ A1 len1 cap1, Hid (QuI w wr b A A1 len1 cap1 (l ++ natsB (us.take k)))) (fun _ i _ => n - (intOf i).toNat)
 case atStart => exact ⟨0, by omega, rfl, A, len, cap, HS0⟩
 case round =>
  obtain ⟨k, hk, rfl, A1, len1, cap1, H⟩ := hrel
  clear HS0
  by_cases hlt : k < n
  ·obtain ⟨u, hu⟩ : ∃ u, us[k]? = some u := ⟨_, List.getElem?_eq_getElem (by have := HN.out; omega)⟩
   have hu64 := HU.out u (List.mem_of_getElem? hu)
   have HUK := Lib.hid hu
   have HTK : Hid (natsB (us.take (k + 1)) = natsB (us.take k) ++ natB u) := by
    obtain ⟨hk', e⟩ := List.getElem?_eq_some_iff.1 hu
    show _ = _
    rw [List.take_succ_eq_append_getElem hk', natsB_app, e]
    simp [natsB]
   have HLK : Hid (len1 ≤ len + 10 * k) := by
    have h1 := natsB_len (l := us.take k) fun u hu => HU.out u (List.mem_of_mem_take hu)
    have h2 := H.out.qu.len
    rw [List.length_append] at h2
    rw [List.length_take] at h1
    have := HLL.out
    show _ ≤ _
    omega
   obtain ⟨g, o', rfl, hg, d1⟩ := hRd_at HR.out H.out.fr HL.out hu
   clear hu
   go_wp2
   go_loopw [5] (fun x wi => ∃ (v : Nat) (pre : List UInt8) (A2 : Option Addr) (len2 cap2 : Nat), x = .int .u64 v ∧ Hid (QuI w wi b A A2 len2 cap2 (l ++ natsB (us.take k) ++ pre)) ∧ Hid (pre ++ natB v = natB u) ∧ v ≤ u) (fun x _ => (intOf x).toNat)
   case atStart => exact ⟨u, [], A1, len1, cap1, rfl, by rw [List.append_nil]; exact H, rfl, Nat.le_refl _⟩
   case round =>
    obtain ⟨v, pre, A2, len2, cap2, rfl, HI, HP, hvu⟩ := hrel
    clear H
    have hv64 : v < 18446744073709551616 := by omega
    have HL2 : Hid (len2 ≤ 1020000000) := by
     have h1 := natsB_len (l := us.take k) fun u hu => HU.out u (List.mem_of_mem_take hu)
     have h2 := HI.out.qu.len
     have h3 := congrArg List.length HP.out
     have h4 := natB_len hu64
     rw [List.length_append] at h3
     rw [List.length_append, List.length_append] at h2
     rw [List.length_take] at h1
     have := HLL.out
     show _ ≤ _
     omega
    have f1 := HI.out.qu.at'.one
    have l1 := HI.out.qu.at'.lt
    by_cases hv : 128 ≤ v
    ·have e1 : decide ((128 : Int) ≤ v) = true := decide_eq_true (by omega)
     have e1' : decide (128 ≤ v) = true := decide_eq_true hv
     obtain ⟨p, hp⟩ : ∃ p : Int, bits .or .u8 ((v : Int) % 256) 128 = p := ⟨_, rfl⟩
     have HPV : Hid (p = ((UInt8.ofNat (v % 128 + 128)).toNat : Int)) := by
      show _ = _
      rw [← hp, Lib.u8_or128_any _ (by omega) (by omega), byte_toNat (by omega)]
      omega
     have HP2 : Hid ((pre ++ [UInt8.ofNat (v % 128 + 128)]) ++ natB (v / 128) = natB u) := by
      show _ = _
      rw [← HP.out, natB_hi (u := v) (by omega), List.append_assoc]
      rfl
     have hbe : Below wr.heap.size wr (wr.alloc (.cells #[.int .u8 p] 5)) := (Below.refl _ _).alloc (Nat.le_refl _) _
     have HI2 := Lib.hid (HI.out.below hbe)
     have HNY := Lib.hid (new_y wr (.int .u8 p) 5 wr.heap.size rfl)
     have HZ : Hid (b + 1 ≤ (wr.alloc (.cells #[.int .u8 p] 5)).heap.size) := HI2.out.qu.at'.lt
     clear hbe HI HP
     go_wp2_with (first | (at_builtin; refine wpList_append_y rfl _ _ rfl (b + 1) A2 cap2 len2 (l ++ natsB (us.take k) ++ pre) rfl HI2.out.qu.len HI2.out.qu.own ⟨wr.heap.size, 0, none⟩ 1 (UInt8.ofNat (v % 128 + 128)) p HPV.out rfl HNY.out (by have := HL2.out; omega) HZ.out ?_; intro A3 cap3 W3 HO3 HF3 HB3; have f3 := (HF3.out.at HI2.out.qu.at' (QuI.nb HI2.out.qu)).one; have l3 := (HF3.out.at HI2.out.qu.at' (QuI.nb HI2.out.qu)).lt; have H3 := Lib.hid (HI2.out.app HO3.out (len' := len2 + 1) (by rw [List.length_append, HI2.out.qu.len]; rfl) HF3.out HB3.out); clear f1 l1) | fail)
     exact ⟨⟨v / 128, pre ++ [UInt8.ofNat (v % 128 + 128)], A3, len2 + 1, cap3, by simp, by rw [← List.append_assoc]; exact H3, HP2, by omega⟩, by simp [intOf]; omega⟩
    ·have e1 : decide ((128 : Int) ≤ v) = false := decide_eq_false (by omega)
     have e1' : decide (128 ≤ v) = false := decide_eq_false hv
     have HPV : Hid ((v : Int) = ((UInt8.ofNat v).toNat : Int)) := by
      show _ = _
      rw [byte_toNat (by omega)]
     have HP2 : Hid (pre ++ [UInt8.ofNat v] = natB u) := by
      show _ = _
      rw [← HP.out, natB_lo (u := v) (by omega)]
     have hbe : Below wr.heap.size wr (wr.alloc (.cells #[.int .u8 (v : Int)] 5)) := (Below.refl _ _).alloc (Nat.le_refl _) _
     have HI2 := Lib.hid (HI.out.below hbe)
     have HNY := Lib.hid (new_y wr (.int .u8 (v : Int)) 5 wr.heap.size rfl)
     have HZ : Hid (b + 1 ≤ (wr.alloc (.cells #[.int .u8 (v : Int)] 5)).heap.size) := HI2.out.qu.at'.lt
     clear hbe HI HP
     go_wp2_with (first | (at_builtin; refine wpList_append_y rfl _ _ rfl (b + 1) A2 cap2 len2 (l ++ natsB (us.take k) ++ pre) rfl HI2.out.qu.len HI2.out.qu.own ⟨wr.heap.size, 0, none⟩ 1 (UInt8.ofNat v) (v : Int) HPV.out rfl HNY.out (by have := HL2.out; omega) HZ.out ?_; intro A3 cap3 W3 HO3 HF3 HB3; have f3 := (HF3.out.at HI2.out.qu.at' (QuI.nb HI2.out.qu)).one; have l3 := (HF3.out.at HI2.out.qu.at' (QuI.nb HI2.out.qu)).lt; have H3 := Lib.hid (HI2.out.app HO3.out (len' := len2 + 1) (by rw [List.length_append, HI2.out.qu.len]; rfl) HF3.out HB3.out); clear f1 l1) | fail)
     exact ⟨⟨k + 1, by omega, by simp, A3, len2 + 1, cap3, by have h3 := H3; rw [List.append_assoc, List.append_assoc] at h3; rw [HTK.out, ← HP2.out]; exact h3⟩, by simp [intOf]; omega⟩
  ·obtain rfl : k = n := by omega
   have HT : Hid (us.take k = us) := List.take_of_length_le (by have := HN.out; omega)
   rw [HT.out] at H
   go_wp2
   exact bodyPost_end (results_none rfl _ _ _) rfl ⟨rfl, A1, len1, cap1, H.out⟩
theorem rdU_new (W : World) (x : Int) : RdU (W.alloc (.cells #[.int .u64 x] 23)) (some ⟨W.heap.size, 0, none⟩) [x] := by
 intro j u hj
 have a := At.new W #[.int .u64 x] 23
 refine ⟨W.heap.size, 0, rfl, a.lt, ?_⟩
 have hl := (List.getElem?_eq_some_iff.1 hj).1
 simp at hl
 subst hl
 simp at hj; subst hj; exact a.cell rfl
def RdI (w : World) (A : Option Addr) (xs : List Int) : Prop := Rd w A (xs.map (Value.int .i64))
theorem RdI.below {w w' : World} {A : Option Addr} {xs : List Int} (h : RdI w A xs) (hb : Below w.heap.size w w') : RdI w' A xs := Rd.below h hb
theorem intsB_take {xs : List Int} {k : Nat} {x : Int} (h : xs[k]? = some x) : intsB (xs.take (k + 1)) = intsB (xs.take k) ++ natB (zigN x) := by
 obtain ⟨hk', e⟩ := List.getElem?_eq_some_iff.1 h
 rw [List.take_succ_eq_append_getElem hk', intsB_app, e]
 simp [intsB]
theorem intsB_len : ∀ {l : List Int}, (∀ x ∈ l, -9223372036854775808 ≤ x ∧ x ≤ 9223372036854775807) → (intsB l).length ≤ 10 * l.length
  | [], _ => by simp [intsB]
  | x :: l, h => by
    have h1 := natB_len (zig_lt (h x (by simp)).1 (h x (by simp)).2)
    have h2 := intsB_len (l := l) fun y hy => h y (by simp [hy])
    have e : intsB (x :: l) = natB (zigN x) ++ intsB l := rfl
    rw [e, List.length_append, List.length_cons]; omega
set_option maxRecDepth 100000 in
set_option maxHeartbeats 2000000 in
theorem qint_any (b : Nat) (A : Option Addr) (len cap : Nat) (l : List UInt8) (L : Option Addr) (n cL : Nat) (xs : List Int) (w : World) (h : Qu w b A len cap l) (hn : xs.length = n) (hm : n ≤ 1000000) (hlen : len ≤ 100000000) (hR : RdI w L xs) (hx : ∀ x ∈ xs, -9223372036854775808 ≤ x ∧ x ≤ 9223372036854775807) (hL : ∀ g, L = some g → g.block ∉ b :: blk A) :
  Calls Tryz.prog 202 #[.pointer (some ⟨b, 0, none⟩), .slice L n cL] w fun e w' => e = .returned (.tuple #[]) ∧ ∃ A' len' cap', QuI w w' b A A' len' cap' (l ++ intsB xs) := by
 have HR := Lib.hid hR
 have HX := Lib.hid hx
 have HN := Lib.hid hn
 have HL := Lib.hid hL
 have HLL := Lib.hid h.len
 have HS0 : Hid (QuI w w b A A len cap (l ++ intsB (xs.take 0))) := by
  show QuI _ _ _ _ _ _ _ _
  rw [List.take_zero]
  simp only [intsB, List.flatMap_nil, List.append_nil]
  exact QuI.start h
 clear hR hx hn h hL
 go_enter Tryz.func202, Tryz.ntmps202
 go_wp2
 go_loopw [5, 8] (fun _ i wr => ∃ k : Nat, k ≤ n ∧ i = .int .i64 k ∧ ∃ A1 len1 cap1, Hid (QuI w wr b A A1 len1 cap1 (l ++ intsB (xs.take k)))) (fun _ i _ => n - (intOf i).toNat)
 case atStart => exact ⟨0, by omega, rfl, A, len, cap, HS0⟩
 case round =>
  obtain ⟨k, hk, rfl, A1, len1, cap1, H⟩ := hrel
  clear HS0
  by_cases hlt : k < n
  ·obtain ⟨x, hx⟩ : ∃ x, xs[k]? = some x := ⟨_, List.getElem?_eq_getElem (by have := HN.out; omega)⟩
   have HXB := Lib.hid (HX.out x (List.mem_of_getElem? hx))
   have HTK := Lib.hid (intsB_take hx)
   have HLK : Hid (len1 ≤ 1000000000) := by
    have h1 := intsB_len (l := xs.take k) fun u hu => HX.out u (List.mem_of_mem_take hu)
    have h2 := H.out.qu.len
    rw [List.length_append] at h2
    rw [List.length_take] at h1
    have := HLL.out
    show _ ≤ _
    omega
   obtain ⟨g, o', rfl, hg, d1⟩ := Frame.rd H.out.fr HR.out HL.out k (.int .i64 x) (by simp [List.getElem?_map, hx])
   clear hx
   go_wp2_with fail
   refine (zig_any x wr HXB.out.1 HXB.out.2).mono ?_
   rintro e w1 ⟨rfl, rfl⟩
   obtain ⟨z, hz⟩ : ∃ z, zigN x = z := ⟨_, rfl⟩
   have HZ64 : Hid (z < 18446744073709551616) := by show _ < _; rw [← hz]; exact zig_lt HXB.out.1 HXB.out.2
   rw [hz] at HTK ⊢
   have hbe : Below wr.heap.size wr (wr.alloc (.cells #[.int .u64 (z : Int)] 23)) := (Below.refl _ _).alloc (Nat.le_refl _) _
   have H2 := Lib.hid (H.out.below hbe)
   have HRN := Lib.hid (rdU_new wr (z : Int))
   have HNB : Hid (∀ g, (some ⟨wr.heap.size, 0, none⟩ : Option Addr) = some g → g.block ∉ b :: blk A1) := fun g hg hm => by
    simp only [Option.some.injEq] at hg
    subst hg
    rcases List.mem_cons.1 hm with h | h
    ·have := H.out.qu.at'.lt
     have e : wr.heap.size = b := h
     omega
    ·have h2 : wr.heap.size ∈ blk A1 := h
     have := (OwnY.blk_le H.out.qu.own _ h2).2
     omega
   clear hbe hz hg d1
   go_wp2_with fail
   refine (qnat_any b A1 len1 cap1 (l ++ intsB (xs.take k)) (some ⟨wr.heap.size, 0, none⟩) 1 1 [z] _ H2.out.qu rfl (by omega) HLK.out HRN.out (fun u hu => by rw [List.mem_singleton] at hu; subst hu; exact HZ64.out) HNB.out).mono ?_
   rintro e w2 ⟨rfl, A2, len2, cap2, hQ⟩
   have H3 : Hid (QuI w w2 b A A2 len2 cap2 (l ++ intsB (xs.take (k + 1)))) := by
    have h3 := H2.out.trans hQ
    rw [List.append_assoc, natsB_cons] at h3
    show QuI _ _ _ _ _ _ _ _
    rw [HTK.out]
    simpa [natsB] using h3
   clear hQ H H2 HRN HNB
   go_wp2
   exact ⟨⟨k + 1, by omega, by simp, A2, len2, cap2, H3⟩, by simp [intOf]; omega⟩
  ·obtain rfl : k = n := by omega
   have HT : Hid (xs.take k = xs) := List.take_of_length_le (by have := HN.out; omega)
   rw [HT.out] at H
   go_wp2
   exact bodyPost_end (results_none rfl _ _ _) rfl ⟨rfl, A1, len1, cap1, H.out⟩
set_option maxRecDepth 100000 in
theorem qraw_any (b : Nat) (A : Option Addr) (len cap : Nat) (l k : List UInt8) (st : ByteArray) (w : World) (h : Qu w b A len cap l) (hst : st = txt k) (hlen : len ≤ 1000000000) (hk : k.length ≤ 1000000000) :
  Calls Tryz.prog 95 #[.pointer (some ⟨b, 0, none⟩), .string st] w fun e w' => e = .returned (.tuple #[]) ∧ ∃ A' len' cap', Qu w' b A' len' cap' (l ++ k) ∧ Frame (b :: blk A) w w' := by
 have H := Lib.hid h
 have HST := Lib.hid hst
 have f1 := h.at'.one
 have l1 := h.at'.lt
 have HFIN : Hid (∀ A' cap' w1, OwnY (b + 1) w1 A' cap' (l ++ k) → Frame (blk A) w w1 → Qu (w1.setCell ⟨b, 0, none⟩ (.slice A' (len + k.length) cap')) b A' (len + k.length) cap' (l ++ k) ∧ Frame (b :: blk A) w (w1.setCell ⟨b, 0, none⟩ (.slice A' (len + k.length) cap'))) := fun A' cap' w1 ho hF => by
  have ha := hF.at h.at' (QuI.nb h)
  have hS := Frame.set [b] w1 b 0 (.slice A' (len + k.length) cap') (by simp)
  refine ⟨⟨ha.set_any 0 _ rfl, OwnY.frame ho hS fun j hj hm => by have := (OwnY.blk_le ho j hj).1; simp only [List.mem_singleton] at hm; omega, by rw [List.length_append, h.len]⟩, ?_⟩
  exact (hF.mono fun j hj => by simp [hj]).trans (hS.mono fun j hj => by simp only [List.mem_singleton] at hj; simp [hj])
 have HB : Hid (b + 1 ≤ w.heap.size) := h.at'.lt
 obtain ⟨m, hm⟩ : ∃ m, k.length = m := ⟨_, rfl⟩
 have HM := Lib.hid hm
 rw [hm] at HFIN hk
 clear h hm hst
 go_enter Tryz.func95, Tryz.ntmps95
 go_wp2_with (first | (at_builtin; refine wpList_append_ys rfl _ _ rfl (b + 1) A cap len l rfl H.out.len H.out.own k st HST.out m HM.out rfl (by omega) HB.out ?_; intro A3 cap3 W3 HO3 HF3; have f3 := (HF3.out.at H.out.at' (QuI.nb H.out)).one; have l3 := (HF3.out.at H.out.at' (QuI.nb H.out)).lt; have H3 := Lib.hid (HFIN.out A3 cap3 W3 HO3.out HF3.out); clear f1 l1) | fail)
 exact bodyPost_end (results_none rfl _ _ _) rfl ⟨rfl, A3, _, cap3, H3.out⟩
set_option maxRecDepth 100000 in
theorem qtext_any (b : Nat) (A : Option Addr) (len cap : Nat) (l : List UInt8) (w : World) (h : Qu w b A len cap l) (hl : l ≠ []) :
  Calls Tryz.prog 74 #[.pointer (some ⟨b, 0, none⟩)] w fun e w' => e = .returned (.string (txt l)) ∧ w = w' := by
 have f1 := h.at'.one
 have l1 := h.at'.lt
 have hcv := run_text h.own hl 191 rfl
 rw [h.len] at hcv
 clear h hl
 go_enter Tryz.func74, Tryz.ntmps74
 go_wp2
 go_ret
 exact ⟨rfl, rfl⟩
end Go.Proofs.YtlbnlmhcpephbaaGreatDoor

namespace Go.Proofs.YtlbnlmhcpephbaaGreatDoor
open Go.RowKit
def Eye (w : World) (b : Nat) (l : List UInt8) : Prop := At w b #[.string (txt l), .bool false] 188
theorem Eye.at' {w : World} {b : Nat} {l : List UInt8} (h : Eye w b l) : At w b #[.string (txt l), .bool false] 188 := h
theorem Eye.below {w w' : World} {b : Nat} {l : List UInt8} (h : Eye w b l) (hb : Below w.heap.size w w') : Eye w' b l := At.below h hb
theorem Eye.frame {w w' : World} {b : Nat} {T : List Nat} {l : List UInt8} (h : Eye w b l) (hF : Frame T w w') (hn : b ∉ T) : Eye w' b l := hF.at h hn
theorem Eye.set {w : World} {b : Nat} {l : List UInt8} (h : Eye w b l) (k : List UInt8) : Eye (w.setCell ⟨b, 0, none⟩ (.string (txt k))) b k := At.set_any h 0 _ rfl
set_option maxRecDepth 100000 in
theorem eon_any (l : List UInt8) (w : World) : Calls Tryz.prog 49 #[.string (txt l)] w fun e w' => e = .returned (.pointer (some ⟨w.heap.size, 0, none⟩)) ∧ Eye w' w.heap.size l ∧ Below w.heap.size w w' := by
 go_enter Tryz.func49, Tryz.ntmps49
 go_wp2
 go_ret
 exact ⟨rfl, At.new _ _ _, (Below.refl _ _).alloc (Nat.le_refl _) _⟩
set_option maxRecDepth 100000 in
theorem eraw_any (b n : Nat) (l : List UInt8) (w : World) (h : Eye w b l) (hn : n ≤ l.length) (hl : l.length ≤ 1000000000) :
  Calls Tryz.prog 63 #[.pointer (some ⟨b, 0, none⟩), .int .i64 n] w fun e w' => e = .returned (.string (txt (l.take n))) ∧ w.setCell ⟨b, 0, none⟩ (.string (txt (l.drop n))) = w' := by
 have f1 := h.at'.two
 have l1 := h.at'.lt
 have hsz := txt_size l
 have h1 : (txt l).extract 0 n = txt (l.take n) := by rw [txt_extract]; simp
 have h2 : (txt l).extract n l.length = txt (l.drop n) := by rw [txt_extract, List.take_length]
 obtain ⟨s, hs⟩ : ∃ s, txt l = s := ⟨_, rfl⟩
 rw [hs] at f1 hsz h1 h2
 clear h hs
 go_enter Tryz.func63, Tryz.ntmps63
 go_wp2
 go_ret
 exact ⟨rfl, rfl⟩
theorem txt_one (y : UInt8) : (txt [y]).toList.isEmpty = false := by
 have h : (txt [y]).toList = [y] := by
  rw [ByteArray.toList_eq]
  rfl
 rw [h]; rfl
def CurryY : Nat → (List Value → Prop) → Prop
 | 0, C => C []
 | n + 1, C => ∀ u, CurryY n fun l => C (u :: l)
theorem curryY_elim : ∀ {n : Nat} {C : List Value → Prop}, CurryY n C → ∀ l : List Value, l.length = n → C l
 | 0, _, h, [], _ => h
 | n + 1, _, h, u :: l, hl => curryY_elim (h u) l (by simpa using hl)
theorem or_step {acc c k : Nat} (ha : acc < 2 ^ (7 * k)) (hk : k ≤ 9) (hf : acc + c * 2 ^ (7 * k) < 18446744073709551616) : bits .or .u64 (acc : Int) (IntKind.u64.wrap ((c : Int) * 2 ^ (7 * k))) = ((acc + c * 2 ^ (7 * k) : Nat) : Int) := by
 have e : ((c : Int) * 2 ^ (7 * k)) = ((c * 2 ^ (7 * k) : Nat) : Int) := by simp
 have h1 : c * 2 ^ (7 * k) < 18446744073709551616 := by omega
 rw [e, wraps_u64 _ (by omega) (by omega)]
 have h2 : acc < 18446744073709551616 := by omega
 have h3 : ((2 : Int) ^ (7 * k)) = ((2 ^ (7 * k) : Nat) : Int) := by simp
 rw [bits_join_low .u64 64 (by decide) wraps_u64 (7 * k) (acc : Int) ((c * 2 ^ (7 * k) : Nat) : Int) (by omega) (by rw [h3]; omega) (by omega) (by omega) (by rw [h3, ← Int.natCast_emod, Nat.mul_mod_left]; rfl) (by omega)]
 omega
theorem wp_scope_again {P : Program} {Q : Exit → Act → World → Prop} {a : Act} {w : World} {c rest : Code} (l : Nat) (J : Act → World → Prop) (μ : Act → World → Nat) (hf : findLabel c l = some (.seq .skip rest))
  (pass : ∀ a w, J a w → rest.wp P (Exit.jump l (fun a' w' => J a' w' ∧ μ a' w' < μ a w) Q) a w) (start : (∀ a w, J a w → rest.wp P (Exit.jump l J Q) a w) → c.wp P (Exit.jump l J Q) a w) : (Code.scope c).wp P Q a w :=
 wp_scope_jumps l J μ hf (start fun a w h => Code.wp_mono (fun e a w q => by
  cases e with
  | goto l' => exact ⟨q.1, q.2.1⟩
  | _ => exact q) (pass a w h)) fun a w h => wp_seq (wp_skip (pass a w h))
structure NatJ (w W : World) (b u : Nat) (rest : List UInt8) (k acc rem : Nat) : Prop where
 k9 : k ≤ 9
 lt : acc < 2 ^ (7 * k)
 sum : u = acc + rem * 2 ^ (7 * k)
 pos : 0 < k → 0 < rem
 eye : Eye W b (natB rem ++ rest)
 fr : Frame [b] w W
theorem NatJ.start {w : World} {b u : Nat} {rest : List UInt8} (h : Eye w b (natB u ++ rest)) : NatJ w w b u rest 0 0 u := ⟨by omega, by simp, by simp, by omega, h, Frame.refl _ _⟩
set_option maxRecDepth 100000 in
set_option maxHeartbeats 4000000 in
theorem enat_any (b u : Nat) (most : Int) (rest : List UInt8) (w : World) (h : Eye w b (natB u ++ rest)) (hu : u < 18446744073709551616) (hm : (u : Int) ≤ most) (hl : rest.length ≤ 100000000) :
  Calls Tryz.prog 79 #[.pointer (some ⟨b, 0, none⟩), .int .u64 most] w fun e w' => e = .returned (.int .u64 (u : Int)) ∧ Eye w' b rest ∧ Frame [b] w w' := by
 have HJ0 := Lib.hid (NatJ.start h)
 clear h
 go_enter Tryz.func79, Tryz.ntmps79
 go_wp2
 refine wp_scope_again 0 (fun a' w' => ∃ (k acc rem : Nat) (l : List Value), a' = { tmps := (.pointer (some ⟨b, 0, none⟩) :: .int .u64 most :: undef :: undef :: .int .u64 0 :: .int .u64 acc :: .int .i64 ((7 * k : Nat) : Int) :: l).toArray, defers := [] } ∧ l.length = 42 ∧ Hid (NatJ w w' b u rest k acc rem)) (fun a' _ => 70 - (intOf (a'.tmps.getD 6 undef)).toNat) rfl ?_ ?_
 ·rintro a' w0 ⟨k, acc, rem, l, rfl, hlen, HJ⟩
  revert hlen
  revert l
  refine curryY_elim ?_
  intro u1 u2 u3 u4 u5 u6 u7 u8 u9 u10 u11 u12 u13 u14 u15 u16 u17 u18 u19 u20 u21 u22 u23 u24 u25 u26 u27 u28 u29 u30 u31 u32 u33 u34 u35 u36 u37 u38 u39 u40 u41 u42
  clear HJ0
  have hk9 := HJ.out.k9
  have hbig : rem * 2 ^ (7 * k) ≤ u := by have := HJ.out.sum; omega
  have hpos := Nat.two_pow_pos (7 * k)
  have hrem : rem < 18446744073709551616 := by
   have := Nat.le_mul_of_pos_right rem hpos
   omega
  obtain ⟨c, hc, hmod, hcase⟩ := natB_cons rem
  obtain ⟨y, hy⟩ : ∃ y, UInt8.ofNat c = y := ⟨_, rfl⟩
  have hyc : y.toNat = c := by rw [← hy]; exact byte_toNat hc
  rw [hy] at hcase
  obtain ⟨more, hmore⟩ : ∃ more, natB rem ++ rest = y :: more := by
   rcases hcase with ⟨_, _, _, h⟩ | ⟨_, _, h⟩ <;> exact ⟨_, by rw [h]; rfl⟩
  have HML : Hid ((y :: more).length ≤ 1000000000) := by show _ ≤ _; rw [← hmore, List.length_append]; have := natB_len hrem; omega
  have HM := Lib.hid hmore
  have HE2 : Hid (Eye w0 b (y :: more)) := by show Eye _ _ _; rw [← hmore]; exact HJ.out.eye
  dsimp only [CurryY]
  obtain ⟨sh, hsh⟩ : ∃ sh : Int, ((7 * k : Nat) : Int) = sh := ⟨_, rfl⟩
  have HSH := Lib.hid hsh
  have hs0 : 0 ≤ sh ∧ sh ≤ 63 := by omega
  rw [hsh]
  obtain ⟨m, hm0⟩ : ∃ m : Nat, c % 128 = m := ⟨_, rfl⟩
  have hml : m < 128 := by omega
  have hand : bits .and .u8 (c : Int) 127 = (m : Int) := by rw [u8_and127 _ (by omega) (by omega)]; omega
  have hw : IntKind.u64.wrap (m : Int) = m := wraps_u64 _ (by omega) (by omega)
  have HK0 : Hid (k = 0 ∨ 0 < rem) := by
   rcases Nat.eq_zero_or_pos k with h | h
   ·exact .inl h
   ·exact .inr (HJ.out.pos h)
  have HK9 : Hid (k = 9 → c ≤ 1 ∧ c < 128) := fun h9 => by
   subst h9
   have h1 : rem * 9223372036854775808 ≤ u := hbig
   rcases hcase with ⟨_, _, h, _⟩ | ⟨_, h, _⟩
   ·omega
   ·omega
  clear hy hsh hpos hbig
  go_wp2_with fail
  refine (eraw_any b 1 (y :: more) w0 HE2.out (by simp) HML.out).mono ?_
  rintro e w1 ⟨rfl, hW1⟩
  have h1 : (y :: more).take 1 = [y] := rfl
  have h2 : (y :: more).drop 1 = more := rfl
  rw [h1]
  rw [h2] at hW1
  obtain ⟨s, hs⟩ : ∃ s, txt [y] = s := ⟨_, rfl⟩
  have hsz : s.size = 1 := by rw [← hs]; rfl
  have hget : ∀ h : 0 < s.size, s[0]'h = y := by subst hs; intro h; rfl
  have hemp : s.toList.isEmpty = false := by rw [← hs]; exact txt_one y
  rw [hs]
  clear hs h1 h2
  obtain ⟨nx, hnx⟩ : ∃ n, acc + m * 2 ^ (7 * k) = n := ⟨_, rfl⟩
  have HW1 : Hid (more = (if c < 128 then rest else natB (rem / 128) ++ rest)) := by
   show _ = _
   have := HM.out
   rcases hcase with ⟨i1, _, _, h⟩ | ⟨i1, _, h⟩
   ·rw [if_pos i1]; rw [h] at this; simpa using this.symm
   ·rw [if_neg (by omega)]; rw [h] at this; simpa using this.symm
  have HN64 : Hid (nx < 18446744073709551616) := by
   show _ < _
   have h1 := HJ.out.sum
   have h2 : m * 2 ^ (7 * k) ≤ rem * 2 ^ (7 * k) := Nat.mul_le_mul_right _ (by omega)
   omega
  have hor : bits .or .u64 (acc : Int) (IntKind.u64.wrap ((m : Int) * 2 ^ sh.toNat)) = (nx : Int) := by
   have e : sh.toNat = 7 * k := by have := HSH.out; omega
   rw [e, or_step HJ.out.lt HJ.out.k9 (by rw [hnx]; exact HN64.out), hnx]
  have HMLT : Hid (nx = acc + m * 2 ^ (7 * k)) := hnx.symm
  have hF1 : Frame [b] w w1 := by rw [← hW1]; exact HJ.out.fr.trans (Frame.set [b] w0 b 0 _ (by simp))
  have hE1 : Eye w1 b more := by rw [← hW1]; exact Eye.set HE2.out more
  have HF1 := Lib.hid hF1
  have HE1 := Lib.hid hE1
  clear hF1 hE1 hW1 HE2
  have HS3 : Hid ((k = 0 ∧ sh = 0 ∧ (sh == 63) = false ∧ decide (0 < sh) = false) ∨ (0 < k ∧ c ≠ 0 ∧ ((k = 9 ∧ (sh == 63) = true) ∨ (sh == 63) = false) ∧ decide (0 < sh) = true)) := by
   have h0 := HSH.out
   rcases HK0.out with h | h
   ·exact .inl ⟨h, by omega, beq_eq_false_iff_ne.2 (by omega), decide_eq_false (by omega)⟩
   ·by_cases hk : k = 0
    ·exact .inl ⟨hk, by omega, beq_eq_false_iff_ne.2 (by omega), decide_eq_false (by omega)⟩
    ·refine .inr ⟨by omega, ?_, ?_, decide_eq_true (by omega)⟩
     ·rcases hcase with ⟨_, _, h1, _⟩ | ⟨h1, _, _⟩ <;> omega
     ·by_cases h9 : k = 9
      ·exact .inl ⟨h9, beq_iff_eq.2 (by omega)⟩
      ·exact .inr (beq_eq_false_iff_ne.2 (by omega))
  clear hnx
  rcases hcase with ⟨i1, i2, i3, i4⟩ | ⟨i1, i2, i4⟩
  ·have e1 : decide ((128 : Int) ≤ c) = false := decide_eq_false (by omega)
   have e1' : decide (128 ≤ c) = false := decide_eq_false (by omega)
   have HU : Hid (nx = u) := by show _ = _; rw [HMLT.out, HJ.out.sum, show m = rem by omega]
   have e2 : decide ((nx : Int) ≤ most) = true := decide_eq_true (by have := HU.out; omega)
   have HMR : Hid (more = rest) := by show _ = _; rw [HW1.out, if_pos i1]
   have HEND : Hid (Eye w1 b rest ∧ Frame [b] w w1) := ⟨by rw [← HMR.out]; exact HE1.out, HF1.out⟩
   have HRES : Hid ((u : Int) = (nx : Int)) := by show _ = _; rw [HU.out]
   have HK9' := HK9
   clear i3 i4 i2 hm0 hmod HW1 HE1 HF1 hml
   rcases HS3.out with ⟨k0, s0, h63, hp⟩ | ⟨k0, cn, h63, hp⟩
   ·clear k0 s0 HS3 HK9 HK9' HSH
    by_cases hc0 : c = 0
    ·subst hc0
     have hand0 : bits .and .u8 0 127 = (m : Int) := hand
     clear hand
     go_wp2
     simp only [Exit.jump]
     go_ret
     exact ⟨by rw [HRES.out]; rfl, HEND.out⟩
    ·have hz : ((c : Int) == 0) = false := beq_eq_false_iff_ne.2 (by omega)
     clear hc0
     go_wp2
     simp only [Exit.jump]
     go_ret
     exact ⟨by rw [HRES.out]; rfl, HEND.out⟩
   ·have hz : ((c : Int) == 0) = false := beq_eq_false_iff_ne.2 (by omega)
    rcases h63 with ⟨k9, h63⟩ | h63
    ·have hc1 : decide ((1 : Int) < c) = false := decide_eq_false (by have := (HK9.out k9).1; omega)
     have hc1' : decide (1 < c) = false := decide_eq_false (by have := (HK9.out k9).1; omega)
     clear k0 cn k9 HS3 HK9 HK9' HSH
     go_wp2
     simp only [Exit.jump]
     go_ret
     exact ⟨by rw [HRES.out]; rfl, HEND.out⟩
    ·clear k0 cn HS3 HK9 HK9' HSH
     go_wp2
     simp only [Exit.jump]
     go_ret
     exact ⟨by rw [HRES.out]; rfl, HEND.out⟩
  ·have e1 : decide ((128 : Int) ≤ c) = true := decide_eq_true (by omega)
   have e1' : decide (128 ≤ c) = true := decide_eq_true (by omega)
   have HK8 : Hid (k ≤ 8) := by
    show _ ≤ _
    by_cases h9 : k = 9
    ·have := (HK9.out h9).2; omega
    ·omega
   have HJ2 : Hid (NatJ w w1 b u rest (k + 1) nx (rem / 128)) := by
    have hp2 : 2 ^ (7 * (k + 1)) = 2 ^ (7 * k) * 128 := by rw [show 7 * (k + 1) = 7 * k + 7 by omega, Nat.pow_add]
    refine ⟨by have := HK8.out; omega, ?_, ?_, fun _ => by omega, ?_, HF1.out⟩
    ·rw [HMLT.out, hp2]
     have h1 := HJ.out.lt
     have h2 : m * 2 ^ (7 * k) ≤ 127 * 2 ^ (7 * k) := Nat.mul_le_mul_right _ (by omega)
     omega
    ·rw [HMLT.out, hp2, HJ.out.sum]
     have h1 : rem = m + rem / 128 * 128 := by omega
     have h2 : rem * 2 ^ (7 * k) = m * 2 ^ (7 * k) + rem / 128 * (2 ^ (7 * k) * 128) := by
      conv => lhs; rw [h1]
      rw [Nat.add_mul, Nat.mul_assoc, Nat.mul_comm 128]
     omega
    ·have := HE1.out
     rw [HW1.out, if_neg (by omega)] at this
     exact this
   have hs56 : sh ≤ 56 := by have := HSH.out; have := HK8.out; omega
   have HZ7 : Hid (sh + 7 = ((7 * (k + 1) : Nat) : Int)) := by have := HSH.out; show _ = _; omega
   have hz : ((c : Int) == 0) = false := beq_eq_false_iff_ne.2 (by omega)
   have h63 : (sh == 63) = false := beq_eq_false_iff_ne.2 (by omega)
   have HMU : Hid (70 - (intOf (.int .i64 ((7 * (k + 1) : Nat) : Int))).toNat < 70 - (intOf (.int .i64 sh)).toNat) := by
    have := HSH.out
    show _ < _
    simp only [intOf]
    omega
   clear i2 i4 hm0 hmod HW1 HE1 HF1 HS3 HK9 HK0
   rcases (show decide (0 < sh) = false ∨ decide (0 < sh) = true by cases decide (0 < sh) <;> simp) with hp | hp
   all_goals
    go_wp2
    go_step3
    rw [HZ7.out]
    exact ⟨rfl, ⟨k + 1, nx, rem / 128, _, rfl, rfl, HJ2⟩, HMU.out⟩
 ·intro START
  go_wp2_with fail
  refine wp_label ?_
  rename_i K0 hK0
  exact hK0 _ _ (START _ _ ⟨0, 0, u, _, rfl, rfl, HJ0⟩)
end Go.Proofs.YtlbnlmhcpephbaaGreatDoor

namespace Go.Proofs.YtlbnlmhcpephbaaGreatDoor
open Go.RowKit
set_option maxRecDepth 100000 in
theorem eint_any (b : Nat) (x : Int) (rest : List UInt8) (w : World) (h : Eye w b (natB (zigN x) ++ rest)) (h1 : -9223372036854775808 ≤ x) (h2 : x ≤ 9223372036854775807) (hl : rest.length ≤ 100000000) :
  Calls Tryz.prog 82 #[.pointer (some ⟨b, 0, none⟩)] w fun e w' => e = .returned (.int .i64 x) ∧ Eye w' b rest ∧ Frame [b] w w' := by
 have hz := zig_lt h1 h2
 have HN := Lib.hid (enat_any b (zigN x) 18446744073709551615 rest w h hz (by omega) hl)
 have HZ := Lib.hid fun W => zag_any (zigN x) W hz
 have HX : Hid (zagI (zigN x) = x) := zag_zig x
 obtain ⟨u, hu⟩ : ∃ u, zigN x = u := ⟨_, rfl⟩
 rw [hu] at HN HZ HX
 clear h hz hu
 go_enter Tryz.func82, Tryz.ntmps82
 go_wp2_with fail
 refine HN.out.mono ?_
 rintro e w1 ⟨rfl, hE, hF⟩
 have HE := Lib.hid (And.intro hE hF)
 clear hE hF
 go_wp2_with fail
 refine (HZ.out w1).mono ?_
 rintro e w2 ⟨rfl, rfl⟩
 rw [HX.out]
 go_wp2
 go_ret
 exact ⟨rfl, HE.out⟩
set_option maxRecDepth 100000 in
theorem esmall_any (b u : Nat) (most : Int) (rest : List UInt8) (w : World) (h : Eye w b (natB u ++ rest)) (hm : (u : Int) ≤ most) (hm' : most ≤ 1000000000) (hl : rest.length ≤ 100000000) :
  Calls Tryz.prog 64 #[.pointer (some ⟨b, 0, none⟩), .int .i64 most] w fun e w' => e = .returned (.int .i64 (u : Int)) ∧ Eye w' b rest ∧ Frame [b] w w' := by
 have HN := Lib.hid (enat_any b u most rest w h (by omega) hm hl)
 have hmx : max most 0 = most := by omega
 clear h
 go_enter Tryz.func64, Tryz.ntmps64
 go_wp2_with fail
 refine HN.out.mono ?_
 rintro e w1 ⟨rfl, hE, hF⟩
 have HE := Lib.hid (And.intro hE hF)
 clear hE hF
 go_wp2
 go_ret
 exact ⟨rfl, HE.out⟩
set_option maxRecDepth 100000 in
theorem ecount_any (b u : Nat) (rest : List UInt8) (w : World) (h : Eye w b (natB u ++ rest)) (h1 : 0 < u) (hm : u ≤ 9223372036854775807) (hl : rest.length ≤ 100000000) :
  Calls Tryz.prog 90 #[.pointer (some ⟨b, 0, none⟩)] w fun e w' => e = .returned (.int .u64 (u : Int)) ∧ Eye w' b rest ∧ Frame [b] w w' := by
 have HN := Lib.hid (enat_any b u 9223372036854775807 rest w h (by omega) (by omega) hl)
 have hz : ((u : Int) == 0) = false := beq_eq_false_iff_ne.2 (by omega)
 clear h h1
 go_enter Tryz.func90, Tryz.ntmps90
 go_wp2_with fail
 refine HN.out.mono ?_
 rintro e w1 ⟨rfl, hE, hF⟩
 have HE := Lib.hid (And.intro hE hF)
 clear hE hF
 go_wp2
 go_ret
 exact ⟨rfl, HE.out⟩
set_option maxRecDepth 100000 in
theorem ebad_any (b : Nat) (l : List UInt8) (w : World) (h : Eye w b l) :
  Calls Tryz.prog 84 #[.pointer (some ⟨b, 0, none⟩)] w fun e w' => e = .returned (.bool false) ∧ w = w' := by
 have f1 := h.at'.two
 have l1 := h.at'.lt
 clear h
 go_enter Tryz.func84, Tryz.ntmps84
 go_wp2
 go_ret
 exact ⟨rfl, rfl⟩
set_option maxRecDepth 100000 in
theorem eover_any (b : Nat) (w : World) (h : Eye w b []) :
  Calls Tryz.prog 51 #[.pointer (some ⟨b, 0, none⟩)] w fun e w' => e = .returned (.bool true) ∧ w = w' := by
 have f1 := h.at'.two
 have l1 := h.at'.lt
 have hemp : (txt []).toList.isEmpty = true := by rw [ByteArray.toList_eq]; rfl
 obtain ⟨s, hs⟩ : ∃ s, txt [] = s := ⟨_, rfl⟩
 rw [hs] at f1 hemp
 clear h hs
 go_enter Tryz.func51, Tryz.ntmps51
 go_wp2
 go_ret
 exact ⟨rfl, rfl⟩
end Go.Proofs.YtlbnlmhcpephbaaGreatDoor

namespace Go.Proofs.YtlbnlmhcpephbaaGreatDoor
open Go.RowKit
set_option maxRecDepth 100000 in
theorem fstep_any (c b : Int) (w : World) (hc : 0 ≤ c ∧ c < 4294967296) (hb : 0 ≤ b ∧ b < 256) :
  Calls Tryz.prog 80 #[.int .u32 c, .int .u8 b] w fun e w' => e = .returned (.int .u32 (crcByte c b)) ∧ Below w.heap.size w w' := by
 obtain ⟨c0, hc0⟩ : ∃ c0, bits .xor .u32 c b = c0 := ⟨_, rfl⟩
 have HC0 : Hid (0 ≤ c0 ∧ c0 < 4294967296) := by show _ ∧ _; rw [← hc0]; exact bits_u32 _ _ _
 have HR : Hid (crcByte c b = crcN 8 c0) := by show _ = _; unfold crcByte; rw [hc0]
 have HS0 : Hid (crcN 0 c0 = c0) := rfl
 go_enter Tryz.func80, Tryz.ntmps80
 go_wp2
 go_loopw [0, 9] (fun c i wr => ∃ k : Nat, k ≤ 8 ∧ i = .int .i64 k ∧ c = .int .u32 (crcN k c0) ∧ Hid (Below w.heap.size w wr)) (fun _ i _ => 8 - (intOf i).toNat)
 case atStart => exact ⟨0, by omega, rfl, by rw [HS0.out, ← hc0], Below.refl _ _⟩
 case round =>
  obtain ⟨k, hk, rfl, rfl, HB⟩ := hrel
  clear HS0 hc0
  by_cases hlt : k < 8
  ·obtain ⟨x, hx⟩ : ∃ x, crcN k c0 = x := ⟨_, rfl⟩
   have hbd : 0 ≤ x ∧ x < 4294967296 := by rw [← hx]; exact crcN_bd HC0.out k
   have HN : Hid (crcN (k + 1) c0 = crcBit x) := by show crcBit _ = _; rw [hx]
   have ha := u32_and1 x hbd.1 hbd.2
   rw [hx]
   clear hx
   by_cases h1 : x % 2 = 1
   ·have HX : Hid (crcBit x = bits .xor .u32 (x / 2) 3988292384) := by show _ = _; unfold crcBit; rw [if_pos h1]
    go_wp2
    go_roundw
    case rel => exact ⟨k + 1, by omega, by simp, by rw [HN.out, HX.out], HB⟩
    case measure => simp [intOf]; omega
   ·have HX : Hid (crcBit x = x / 2) := by show _ = _; unfold crcBit; rw [if_neg h1]
    have h2 : (x % 2 == 1) = false := beq_eq_false_iff_ne.2 h1
    go_wp2
    go_roundw
    case rel => exact ⟨k + 1, by omega, by simp, by rw [HN.out, HX.out], HB⟩
    case measure => simp [intOf]; omega
  ·obtain rfl : k = 8 := by omega
   go_wp2
   go_ret
   exact ⟨by rw [HR.out]; rfl, HB.out⟩
set_option maxRecDepth 100000 in
theorem fsum_any (l : List UInt8) (w : World) (hl : l.length ≤ 1000000000) :
  Calls Tryz.prog 66 #[.string (txt l)] w fun e w' => e = .returned (.int .u32 (sumY l)) ∧ Below w.heap.size w w' := by
 have hsz := txt_size l
 have HGET : Hid (∀ k (hk : k < l.length) (h : k < (txt l).size), (txt l)[k]'h = l[k]'hk) := fun k hk h => rfl
 obtain ⟨s, hs⟩ : ∃ s, txt l = s := ⟨_, rfl⟩
 obtain ⟨n, hn⟩ : ∃ n, l.length = n := ⟨_, rfl⟩
 have HN := Lib.hid hn
 rw [hs] at hsz HGET ⊢
 rw [hn] at hsz hl
 clear hs hn
 go_enter Tryz.func66, Tryz.ntmps66
 go_wp2
 go_loopw [3, 4, 7] (fun c _ i wr => ∃ k : Nat, k ≤ n ∧ i = .int .i64 k ∧ c = .int .u32 (crcAll (l.take k)) ∧ Hid (Below w.heap.size w wr)) (fun _ _ i _ => n - (intOf i).toNat)
 case atStart => exact ⟨0, by omega, rfl, rfl, Below.refl _ _⟩
 case round =>
  obtain ⟨k, hk, rfl, rfl, HB⟩ := hrel
  by_cases hlt : k < n
  ·have HCR := Lib.hid (crcAll_take l k (by have := HN.out; omega))
   have HBD := Lib.hid (crcAll_bd (l.take k))
   have hget := HGET.out k (by have := HN.out; omega)
   obtain ⟨y, hy⟩ : ∃ y, l[k]'(by have := HN.out; omega) = y := ⟨_, rfl⟩
   rw [hy] at HCR hget
   obtain ⟨x, hx⟩ : ∃ x, crcAll (l.take k) = x := ⟨_, rfl⟩
   rw [hx] at HBD HCR ⊢
   clear hy hx
   go_wp2_with fail
   refine (fstep_any x (y.toNat : Int) wr HBD.out (by have := y.toNat_lt; omega)).mono ?_
   rintro e w1 ⟨rfl, hb⟩
   rw [← HCR.out]
   have HB1 := Lib.hid (keep1 HB.out hb)
   clear hb HB
   go_wp2
   go_roundw
   case rel => exact ⟨k + 1, by omega, by simp, rfl, HB1⟩
   case measure => simp [intOf]; omega
  ·obtain rfl : k = n := by omega
   have HT : Hid (l.take k = l) := List.take_of_length_le (by have := HN.out; omega)
   rw [HT.out]
   go_wp2
   go_ret
   exact ⟨rfl, HB.out⟩
theorem conv_new (W : World) (l : List UInt8) (vs : Array Value) (n : Nat) (hn : l.length = n) (hv : vs = (l.map fun b => Value.int .u8 (b.toNat : Int)).toArray) :
  (convert 191 9 (.slice (some ⟨W.heap.size, 0, none⟩) n n)).run Tryz.prog (W.alloc (.cells vs 5)) = .ok (.string (txt l)) (W.alloc (.cells vs 5)) := by
 subst hn hv
 refine run_convert_bytes_back _ _ _ 5 ⟨W.heap.size, 0, none⟩ l.length l (by kernel_rfl) (by kernel_rfl) (by kernel_rfl) fun j hj => ?_
 rw [Addr.add_lit]
 have := (At.new W (l.map fun b => Value.int .u8 (b.toNat : Int)).toArray 5).cell (i := j) (v := .int .u8 (l[j].toNat : Int)) (by simp [hj])
 simpa using this
set_option maxRecDepth 100000 in
theorem ffour_any (c : Int) (w : World) (hc : 0 ≤ c ∧ c < 4294967296) :
  Calls Tryz.prog 65 #[.int .u32 c] w fun e w' => e = .returned (.string (txt (fourY c))) ∧ Below w.heap.size w w' := by
 have hcv := conv_new w (fourY c) #[.int .u8 (c % 256), .int .u8 (c / 256 % 256), .int .u8 (c / 65536 % 256), .int .u8 (c / 16777216)] 4 rfl (by
  simp only [fourY, List.map_cons, List.map_nil]
  rw [byteI (by omega) (by omega), byteI (by omega) (by omega), byteI (by omega) (by omega), byteI (by omega) (by omega), show c / 16777216 % 256 = c / 16777216 by omega])
 go_enter Tryz.func65, Tryz.ntmps65
 go_wp2
 go_ret
 exact ⟨rfl, (by repeat (first | with_reducible assumption | with_reducible exact Below.refl _ _ | with_reducible refine Below.drew ?_ | with_reducible refine Below.drewN ?_ _ | with_reducible refine Below.setCell ?_ (by first | omega | (simp; done) | (simp; omega)) _ | with_reducible refine Below.alloc ?_ (by first | omega | (simp; done) | (simp; omega) | (simp [World.setCell]; omega)) _))⟩
end Go.Proofs.YtlbnlmhcpephbaaGreatDoor
