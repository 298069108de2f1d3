/- Texts of this claim, joined, indents halved: QuillP, Bytes, CrcP, SignZ, Quill, Eye, EyeB, FrameC, FrameD, RunsQ, RunsG, BnLoad1, BnLoadP, BnLoadI. -/
import Derived.Test.YtlbnlmhcpephbaaGreatDoorProg
import Derived.Maps.AppendAt
import Derived.OwnWalk
import Derived.Below
import Derived.Lib.AppendStr
import Derived.Laws.IdiomStrings
import Derived.Laws.Bits64
import Derived.Laws.Bits64b
import Derived.Lib.EndianBits
import Derived.Lib.Zigzag
import Derived.Lib.VarintBits
import Derived.ScopeJumps
import Derived.Test.YtlbnlmhcpephbaaGreatDoorKb9
namespace Go.Proofs.YtlbnlmhcpephbaaGreatDoor
def natB (u : Nat) : List UInt8 := if u < 128 then [UInt8.ofNat u] else UInt8.ofNat (u % 128 + 128) :: natB (u / 128)
termination_by u
decreasing_by omega
theorem natB_lo {u : Nat} (h : u < 128) : natB u = [UInt8.ofNat u] := by rw [natB, if_pos h]
theorem natB_hi {u : Nat} (h : ¬ u < 128) : natB u = UInt8.ofNat (u % 128 + 128) :: natB (u / 128) := by rw [natB, if_neg h]
theorem natB_len {u : Nat} (h : u < 18446744073709551616) : (natB u).length ≤ 10 := by
 have key : ∀ k u : Nat, u < 128 ^ (k + 1) → (natB u).length ≤ k + 1 := by
  intro k
  induction k with
  | zero => intro u hu; rw [natB_lo (by omega)]; simp
  | succ k ih =>
   intro u hu
   by_cases h : u < 128
   ·rw [natB_lo h]; simp
   ·rw [natB_hi h, List.length_cons]
    have := ih (u / 128) (by
     rw [Nat.pow_succ] at hu
     exact Nat.div_lt_of_lt_mul (by rw [Nat.mul_comm]; exact hu))
    omega
 exact key 9 u (Nat.lt_of_lt_of_le h (by decide))
theorem natB_cons (u : Nat) : ∃ b : Nat, b < 256 ∧ b % 128 = u % 128 ∧ ((b < 128 ∧ u < 128 ∧ b = u ∧ natB u = [UInt8.ofNat b]) ∨ (128 ≤ b ∧ 128 ≤ u ∧ natB u = UInt8.ofNat b :: natB (u / 128))) := by
 by_cases h : u < 128
 ·exact ⟨u, by omega, rfl, .inl ⟨h, h, rfl, natB_lo h⟩⟩
 ·exact ⟨u % 128 + 128, by omega, by omega, .inr ⟨by omega, by omega, natB_hi h⟩⟩
theorem byte_toNat {b : Nat} (h : b < 256) : (UInt8.ofNat b).toNat = b := by
 rw [UInt8.toNat_ofNat']
 exact Nat.mod_eq_of_lt h
def zigN (x : Int) : Nat := if x < 0 then (-2 * x - 1).toNat else (2 * x).toNat
def zagI (u : Nat) : Int := if u % 2 = 1 then -((u / 2 : Nat) : Int) - 1 else ((u / 2 : Nat) : Int)
theorem zag_zig (x : Int) : zagI (zigN x) = x := by
 unfold zagI zigN
 split <;> split <;> omega
theorem zig_lt {x : Int} (h1 : -9223372036854775808 ≤ x) (h2 : x ≤ 9223372036854775807) : zigN x < 18446744073709551616 := by
 unfold zigN
 split <;> omega
def natsB (l : List Nat) : List UInt8 := l.flatMap natB
def intsB (l : List Int) : List UInt8 := l.flatMap fun x => natB (zigN x)
theorem natsB_cons (u : Nat) (l : List Nat) : natsB (u :: l) = natB u ++ natsB l := rfl
theorem natsB_app (l k : List Nat) : natsB (l ++ k) = natsB l ++ natsB k := List.flatMap_append
theorem intsB_app (l k : List Int) : intsB (l ++ k) = intsB l ++ intsB k := List.flatMap_append
theorem natsB_len : ∀ {l : List Nat}, (∀ u ∈ l, u < 18446744073709551616) → (natsB l).length ≤ 10 * l.length
 | [], _ => by simp [natsB]
 | u :: l, h => by
  have h1 := natB_len (h u (by simp))
  have h2 := natsB_len (l := l) fun y hy => h y (by simp [hy])
  rw [natsB_cons, List.length_append, List.length_cons]; omega
def pairsB : Option Int → List (Int × Int) → List UInt8
 | _, [] => []
 | none, x :: l => natB (zigN x.1) ++ natB x.2.toNat ++ pairsB (some x.1) l
 | some p, x :: l => natB (x.1 - p - 1).toNat ++ natB x.2.toNat ++ pairsB (some x.1) l
def rowB (l : List (Int × Int)) : List UInt8 := natB l.length ++ pairsB none l
def txt (l : List UInt8) : ByteArray := ⟨l.toArray⟩
theorem txt_size (l : List UInt8) : (txt l).size = l.length := by simp [txt, ByteArray.size]
theorem txt_extract (l : List UInt8) (a b : Nat) : (txt l).extract a b = txt ((l.take b).drop a) := by
 apply ByteArray.ext
 simp [txt, ByteArray.data_extract, List.drop_take]
end Go.Proofs.YtlbnlmhcpephbaaGreatDoor

namespace Go.Proofs.YtlbnlmhcpephbaaGreatDoor
open Go.RowKit
def cellsY (l : List UInt8) : List Value := l.map fun b => .int .u8 (b.toNat : Int)
theorem cellsY_app (l k : List UInt8) : cellsY (l ++ k) = cellsY l ++ cellsY k := List.map_append
def OwnY (base : Nat) (w : World) (A : Option Addr) (cap : Nat) (l : List UInt8) : Prop := w.ownsRow base 5 1 (.slice A l.length cap) l.length (cellsY l)
theorem OwnY.nil (base : Nat) (w : World) : OwnY base w none 0 [] := World.ownsRow_nil w base _ 1
theorem OwnY.base_le {base cap : Nat} {w : World} {A : Option Addr} {l : List UInt8} (h : OwnY base w A cap l) : ∀ g, A = some g → base ≤ g.block ∧ g.block < w.heap.size := by
 rintro g rfl
 exact World.ownsRow.lt h g.block rfl
theorem OwnY.blk_le {base c : Nat} {w : World} {A : Option Addr} {l : List UInt8} (h : OwnY base w A c l) : ∀ k ∈ blk A, base ≤ k ∧ k < w.heap.size := by
 intro k hk
 cases A with
 | none => simp [blk] at hk
 | some a => simp only [blk, List.mem_singleton] at hk; subst hk; exact h.base_le a rfl
theorem OwnY.frame {base c : Nat} {w w' : World} {T : List Nat} {A : Option Addr} {l : List UInt8} (h : OwnY base w A c l) (hf : Frame T w w') (hn : ∀ k ∈ blk A, k ∉ T) : OwnY base w' A c l := by
 obtain ⟨h1, h2⟩ := h
 refine ⟨h1, ?_⟩
 rcases h2 with h2 | ⟨g, cp, cur, e, hg, hc, r⟩
 ·exact .inl h2
 ·refine .inr ⟨g, cp, cur, e, hg, (hf.block g (Array.getElem?_eq_some_iff.1 hc).1 (hn g ?_)).trans hc, r⟩
  simp only [Value.slice.injEq] at e
  rw [e.1]
  simp [blk]
theorem OwnY.below {base c : Nat} {w w' : World} {A : Option Addr} {l : List UInt8} (h : OwnY base w A c l) (hb : Below w.heap.size w w') : OwnY base w' A c l := h.frame (T := []) (Frame.of_below hb) (fun _ _ => by simp)
theorem OwnY.cell {base cap : Nat} {w : World} {A : Option Addr} {l : List UInt8} (h : OwnY base w A cap l) (hl : l ≠ []) : ∃ g, A = some ⟨g, 0, none⟩ ∧ ∀ j (hj : j < l.length), w.cell? ((⟨g, 0, none⟩ : Addr).add j) = some (.int .u8 (l[j].toNat : Int)) := by
 rcases h.2 with ⟨e, hn⟩ | ⟨g, c, cur, e, hg, hc, r⟩
 ·exact absurd (List.eq_nil_of_length_eq_zero hn) hl
 ·injection e with e1 e2 e3
  subst e1
  refine ⟨g, rfl, fun j hj => ?_⟩
  exact World.ownsRow.cells h (g := g) rfl j _ (by simp [cellsY, List.getElem?_map, List.getElem?_eq_getElem hj])
theorem Tryz.underlyingY : Tryz.prog.underlying 191 = some (.slice 5) := by kernel_rfl
theorem Tryz.infoY : (Tryz.prog.info? 5).map (fun i => (i.zero, i.size, i.bytes)) = some (some (.int .u8 0), 1, 1) := by kernel_rfl
theorem Tryz.infoYE : ∃ i, Tryz.prog.info? 5 = some i ∧ i.zero = some (.int .u8 0) ∧ i.size = 1 ∧ i.bytes = 1 := by
 have := Tryz.infoY
 cases hh : Tryz.prog.info? 5 with
 | none => rw [hh] at this; cases this
 | some i =>
  rw [hh] at this
  simp only [Option.map_some, Option.some.injEq, Prod.mk.injEq] at this
  exact ⟨i, rfl, this.1, this.2.1, this.2.2⟩
theorem Frame.of_grownY {w w' : World} {A : Option Addr} {n c : Nat} (hg : w.grownBy w' (Value.slice A n c).ownBlock) : Frame (blk A) w w' :=
 ⟨hg.os, hg.tape, hg.output, hg.size, fun k hk hn => hg.block k hk fun e => hn (by
  cases A with
  | none => simp [Value.ownBlock] at e
  | some a => simp [Value.ownBlock] at e; simp [blk, e])⟩
theorem wpList_append_y {ops : Array Oper} {rest : List Oper} {o : Oper} {a : Act} {Q : Exit → Act → World → Prop} {w : World} (hgd : o.guard = none) (s x : Operand)
  (ho : o.op = .call { callee := .builtin .append, args := #[s, x], argTypes := #[191, 191] })
  (base : Nat) (A : Option Addr) (cap n : Nat) (l : List UInt8) (hs : a.eval s = .slice A n cap) (hn : l.length = n) (hown : OwnY base w A cap l)
  (ad : Addr) (c : Nat) (b : UInt8) (p : Int) (hp : p = (b.toNat : Int)) (hx : a.eval x = .slice (some ad) 1 c) (h0 : w.cell? (ad.add 0) = some (.int .u8 p))
  (hlen : n ≤ 1099511627776) (hbase : base ≤ w.heap.size)
  (h : ∀ A' cap' w', Hid (OwnY base w' A' cap' (l ++ [b])) → Hid (Frame (blk A) w w') → Hid (∀ k ∈ blk A', k ∈ blk A ∨ w.heap.size ≤ k) → wpList Tryz.prog ops Q rest (a.put o.dst (.slice A' (n + 1) cap')) w') :
  wpList Tryz.prog ops Q (o :: rest) a w := by
 subst hn hp
 obtain ⟨i, hi, hz, hsz, hby⟩ := Tryz.infoYE
 refine wpList_append_own_at w hgd s x _ ho base _ i _ 1 1 Tryz.underlyingY hi hz hsz hby rfl (by decide) _ l.length (cellsY l) hs hown ad 1 c [.int .u8 (b.toNat : Int)] hx rfl ?_ ?_ (by simp only [maxLen]; omega) (by omega) hbase ?_
 ·intro j u hj
  match j, hj with
  | 0, hj => simp only [List.getElem?_cons_zero, Option.some.injEq] at hj; subst hj; exact h0
 ·intro u hu
  simp only [List.mem_singleton] at hu
  subst hu; rfl
 ·intro v' w' hown' hg _ hblk
  have hl : (l ++ [b]).length = l.length + 1 := by simp
  have hm : cellsY (l ++ [b]) = cellsY l ++ [.int .u8 (b.toNat : Int)] := cellsY_app l [b]
  rw [← hm] at hown'
  rcases hown'.2 with ⟨e, hn⟩ | ⟨g, cp, cur, rfl, r⟩
  ·omega
  ·refine h _ _ _ (by show OwnY _ _ _ _ _; unfold OwnY; rw [hl]; exact hown') (Frame.of_grownY hg) fun k hk => ?_
   simp only [blk, List.mem_singleton] at hk
   subst hk
   simp only [Value.ownBlock] at hblk
   rcases hblk with hblk | hblk
   ·left
    cases A with
    | none => simp at hblk
    | some a => simp only [Option.some.injEq] at hblk; simp [blk, hblk]
   ·right
    simp only [Option.some.injEq] at hblk
    omega
theorem strCells_txt (l : List UInt8) : Lib.strCells (txt l) = cellsY l := by simp [Lib.strCells, txt, cellsY]
theorem wpList_append_ys {ops : Array Oper} {rest : List Oper} {o : Oper} {a : Act} {Q : Exit → Act → World → Prop} {w : World} (hgd : o.guard = none) (s x : Operand)
  (ho : o.op = .call { callee := .builtin .append, args := #[s, x], argTypes := #[191, 9] })
  (base : Nat) (A : Option Addr) (cap n : Nat) (l : List UInt8) (hs : a.eval s = .slice A n cap) (hn : l.length = n) (hown : OwnY base w A cap l)
  (k : List UInt8) (st : ByteArray) (hst : st = txt k) (m : Nat) (hm : k.length = m) (hx : a.eval x = .string st)
  (hlen : n + m ≤ 1099511627776) (hbase : base ≤ w.heap.size)
  (h : ∀ A' cap' w', Hid (OwnY base w' A' cap' (l ++ k)) → Hid (Frame (blk A) w w') → wpList Tryz.prog ops Q rest (a.put o.dst (.slice A' (n + m) cap')) w') :
  wpList Tryz.prog ops Q (o :: rest) a w := by
 subst hn hst hm
 obtain ⟨i, hi, hz, hsz, hby⟩ := Tryz.infoYE
 refine Lib.wpList_append_own_string w hgd s x _ _ ho base _ i Tryz.underlyingY Tryz.underlying9 hi hz hsz hby _ l.length (cellsY l) hs hown (txt k) hx (by rw [txt_size]; simp only [maxLen]; omega) (by rw [txt_size]; omega) hbase ?_
 intro v' w' hown' hg hnil
 rw [strCells_txt, ← cellsY_app, txt_size] at hown'
 have hl : (l ++ k).length = l.length + k.length := by simp
 rcases hown'.2 with ⟨e, hn⟩ | ⟨g, cp, cur, rfl, r⟩
 ·have := h none 0 w' (by show OwnY _ _ _ _ _; unfold OwnY; rw [hl, hn]; rw [e, hn] at hown'; exact hown') (Frame.of_grownY hg)
  rw [hn] at this
  rw [e]
  exact this
 ·exact h _ _ _ (by show OwnY _ _ _ _ _; unfold OwnY; rw [hl]; exact hown') (Frame.of_grownY hg)
theorem run_text {base cap : Nat} {w : World} {A : Option Addr} {l : List UInt8} (h : OwnY base w A cap l) (hl : l ≠ []) (src : TypeId) (hs : src = 191) : (convert src 9 (.slice A l.length cap)).run Tryz.prog w = .ok (.string (txt l)) w := by
 subst hs
 obtain ⟨g, rfl, hc⟩ := h.cell hl
 exact run_convert_bytes_back w _ _ _ ⟨g, 0, none⟩ cap l Tryz.underlyingY (by kernel_rfl) Tryz.underlying9 hc
end Go.Proofs.YtlbnlmhcpephbaaGreatDoor

namespace Go.Proofs.YtlbnlmhcpephbaaGreatDoor
theorem bits_u32 (op : BinOp) (x y : Int) : 0 ≤ bits op .u32 x y ∧ bits op .u32 x y < 4294967296 := by
 unfold bits
 rw [IntKind.wrap_u32]
 omega
theorem u32_and1 (x : Int) (h₀ : 0 ≤ x) (h₁ : x < 4294967296) : bits .and .u32 x 1 = x % 2 := by
 have h := bits_mask .u32 32 (by decide) wraps_u32 1 (by decide) x h₀ (by omega)
 simpa using h
def crcBit (c : Int) : Int := if c % 2 = 1 then bits .xor .u32 (c / 2) 3988292384 else c / 2
theorem crcBit_bd {c : Int} (h : 0 ≤ c ∧ c < 4294967296) : 0 ≤ crcBit c ∧ crcBit c < 4294967296 := by
 unfold crcBit
 split
 ·exact bits_u32 _ _ _
 ·omega
def crcN : Nat → Int → Int
 | 0, c => c
 | n + 1, c => crcBit (crcN n c)
theorem crcN_bd {c : Int} (h : 0 ≤ c ∧ c < 4294967296) : ∀ n, 0 ≤ crcN n c ∧ crcN n c < 4294967296
 | 0 => h
 | n + 1 => crcBit_bd (crcN_bd h n)
def crcByte (c : Int) (b : Int) : Int := crcN 8 (bits .xor .u32 c b)
theorem crcByte_bd (c b : Int) : 0 ≤ crcByte c b ∧ crcByte c b < 4294967296 := crcN_bd (bits_u32 _ _ _) 8
def crcAll (l : List UInt8) : Int := l.foldl (fun c b => crcByte c (b.toNat : Int)) 4294967295
theorem crcAll_bd (l : List UInt8) : 0 ≤ crcAll l ∧ crcAll l < 4294967296 := by
 have key : ∀ (l : List UInt8) (c : Int), 0 ≤ c ∧ c < 4294967296 → 0 ≤ l.foldl (fun c b => crcByte c (b.toNat : Int)) c ∧ l.foldl (fun c b => crcByte c (b.toNat : Int)) c < 4294967296 := by
  intro l
  induction l with
  | nil => intro c h; exact h
  | cons b l ih => intro c _; exact ih _ (crcByte_bd _ _)
 exact key l _ (by omega)
theorem crcAll_take (l : List UInt8) (k : Nat) (hk : k < l.length) : crcAll (l.take (k + 1)) = crcByte (crcAll (l.take k)) ((l[k]'hk).toNat : Int) := by
 unfold crcAll
 rw [List.take_succ_eq_append_getElem hk, List.foldl_append]
 rfl
def sumY (l : List UInt8) : Int := bits .xor .u32 4294967295 (crcAll l)
theorem sumY_bd (l : List UInt8) : 0 ≤ sumY l ∧ sumY l < 4294967296 := bits_u32 _ _ _
def fourY (c : Int) : List UInt8 := [UInt8.ofNat (c % 256).toNat, UInt8.ofNat (c / 256 % 256).toNat, UInt8.ofNat (c / 65536 % 256).toNat, UInt8.ofNat (c / 16777216 % 256).toNat]
theorem fourY_len (c : Int) : (fourY c).length = 4 := rfl
theorem byteI {x : Int} (h0 : 0 ≤ x) (h1 : x < 256) : ((UInt8.ofNat x.toNat).toNat : Int) = x := by
 rw [byte_toNat (by omega)]; omega
def frameY (kind : Nat) (load : List UInt8) : List UInt8 :=
 let t := [79, 71, 1] ++ [UInt8.ofNat kind] ++ natB load.length ++ load
 t ++ fourY (sumY t)
end Go.Proofs.YtlbnlmhcpephbaaGreatDoor

namespace Go.Proofs.YtlbnlmhcpephbaaGreatDoor
open Go.RowKit
theorem xor_u64_ones (a : Int) (h0 : 0 ≤ a) (h1 : a < 18446744073709551616) : bits .xor .u64 a 18446744073709551615 = 18446744073709551615 - a := by
 obtain ⟨n, rfl⟩ := Int.eq_ofNat_of_zero_le h0
 have e : (18446744073709551615 : Int) = ((2 ^ 64 - 1 : Nat) : Int) := by decide
 rw [e, bits_xor_u64_nat _ _ (by omega) (by decide), Nat.xor_comm, Lib.xor_ones64 _ (by omega)]
 omega
theorem xor_u64_zero (a : Int) (h0 : 0 ≤ a) (h1 : a < 18446744073709551616) : bits .xor .u64 a 0 = a := by
 obtain ⟨n, rfl⟩ := Int.eq_ofNat_of_zero_le h0
 have := bits_xor_u64_nat n 0 (by omega) (by decide)
 rw [Nat.xor_zero] at this
 exact this
theorem xor_i64_zero (a : Int) (h0 : 0 ≤ a) (h1 : a < 9223372036854775808) : bits .xor .i64 a 0 = a := by
 obtain ⟨n, rfl⟩ := Int.eq_ofNat_of_zero_le h0
 show IntKind.i64.wrap ((BitVec.ofInt 64 (n : Int) ^^^ BitVec.ofInt 64 0).toNat : Int) = _
 have h2 : (BitVec.ofInt 64 (n : Int)).toNat = n := by
  rw [BitVec.ofInt_natCast, BitVec.toNat_ofNat]; exact Nat.mod_eq_of_lt (by omega)
 have h3 : (BitVec.ofInt 64 (0 : Int)).toNat = 0 := by decide
 rw [BitVec.toNat_xor, h2, h3, Nat.xor_zero, IntKind.wrap_i64]
 omega
theorem xor_i64_neg (a : Int) (h0 : 0 ≤ a) (h1 : a < 9223372036854775808) : bits .xor .i64 a (-1) = -a - 1 := by
 obtain ⟨n, rfl⟩ := Int.eq_ofNat_of_zero_le h0
 rw [← Lib.i64_not n (by omega)]
 show IntKind.i64.wrap ((BitVec.ofInt 64 (n : Int) ^^^ BitVec.ofInt 64 (-1)).toNat : Int) = IntKind.i64.wrap ((BitVec.ofInt 64 (-1) ^^^ BitVec.ofInt 64 (n : Int)).toNat : Int)
 rw [BitVec.xor_comm]
theorem zig_any (x : Int) (w : World) (h1 : -9223372036854775808 ≤ x) (h2 : x ≤ 9223372036854775807) :
  Calls Tryz.prog 206 #[.int .i64 x] w fun e w' => e = .returned (.int .u64 (zigN x : Nat)) ∧ w = w' := by
 have HZ : Hid (bits .xor .u64 (IntKind.u64.wrap (IntKind.u64.wrap x * 2)) (IntKind.u64.wrap (x / 9223372036854775808)) = (zigN x : Nat)) := by
  show _ = _
  rw [IntKind.wrap_u64, IntKind.wrap_u64, IntKind.wrap_u64]
  unfold zigN
  by_cases h : x < 0
  ·rw [if_pos h, show x / 9223372036854775808 % 18446744073709551616 = 18446744073709551615 by omega, xor_u64_ones _ (by omega) (by omega)]
   omega
  ·rw [if_neg h, show x / 9223372036854775808 % 18446744073709551616 = 0 by omega, xor_u64_zero _ (by omega) (by omega)]
   omega
 go_enter Tryz.func206, Tryz.ntmps206
 go_wp2
 go_ret
 exact ⟨by rw [← HZ.out]; rfl, rfl⟩
theorem zag_any (u : Nat) (w : World) (h : u < 18446744073709551616) :
  Calls Tryz.prog 100 #[.int .u64 (u : Int)] w fun e w' => e = .returned (.int .i64 (zagI u)) ∧ w = w' := by
 have HZ : Hid (bits .xor .i64 ((u : Int) / 2) (wrap64 (-wrap64 (bits .and .u64 u 1))) = zagI u) := by
  show _ = _
  rw [Lib.u64_and1 _ (by omega) (by omega)]
  unfold zagI
  by_cases h1 : u % 2 = 1
  ·rw [if_pos h1, show (u : Int) % 2 = 1 by omega, show wrap64 (-wrap64 1) = -1 by simp [wrap64], xor_i64_neg _ (by omega) (by omega)]
   omega
  ·rw [if_neg h1, show (u : Int) % 2 = 0 by omega, show wrap64 (-wrap64 0) = 0 by simp [wrap64], xor_i64_zero _ (by omega) (by omega)]
   omega
 go_enter Tryz.func100, Tryz.ntmps100
 go_wp2
 go_ret
 exact ⟨by rw [← HZ.out]; rfl, rfl⟩
end Go.Proofs.YtlbnlmhcpephbaaGreatDoor

namespace Go.Proofs.YtlbnlmhcpephbaaGreatDoor
open Go.RowKit
structure Qu (w : World) (b : Nat) (A : Option Addr) (len cap : Nat) (l : List UInt8) : Prop where
 at' : At w b #[.slice A len cap] 193
 own : OwnY (b + 1) w A cap l
 len : l.length = len
structure QuI (w0 W : World) (b : Nat) (A0 A : Option Addr) (len cap : Nat) (l : List UInt8) : Prop where
 qu : Qu W b A len cap l
 fr : Frame (b :: blk A0) w0 W
 bl : ∀ j ∈ blk A, j ∈ blk A0 ∨ w0.heap.size ≤ j
section
variable {w0 W W' : World} {b len len' cap cap' : Nat} {A0 A A' : Option Addr} {l l' : List UInt8}
theorem Qu.below (h : Qu W b A len cap l) (hb : Below W.heap.size W W') : Qu W' b A len cap l := ⟨h.at'.below hb, h.own.below hb, h.len⟩
theorem QuI.start (h : Qu W b A len cap l) : QuI W W b A A len cap l := ⟨h, Frame.refl _ _, fun _ h => .inl h⟩
theorem QuI.below (h : QuI w0 W b A0 A len cap l) (hb : Below W.heap.size W W') : QuI w0 W' b A0 A len cap l := ⟨h.qu.below hb, h.fr.trans (Frame.of_below hb), h.bl⟩
theorem QuI.nb (h : Qu W b A len cap l) : b ∉ blk A := fun hm => by have := (OwnY.blk_le h.own b hm).1; omega
theorem QuI.app (h : QuI w0 W b A0 A len cap l) (ho : OwnY (b + 1) W' A' cap' l') (hl : l'.length = len') (hF : Frame (blk A) W W') (hB : ∀ j ∈ blk A', j ∈ blk A ∨ W.heap.size ≤ j) :
  QuI w0 (W'.setCell ⟨b, 0, none⟩ (.slice A' len' cap')) b A0 A' len' cap' l' := by
 have ha := hF.at h.qu.at' (QuI.nb h.qu)
 have hS := Frame.set [b] W' b 0 (.slice A' len' cap') (by simp)
 refine ⟨⟨ha.set_any 0 _ rfl, OwnY.frame ho hS fun j hj hm => by have := (OwnY.blk_le ho j hj).1; simp only [List.mem_singleton] at hm; omega, hl⟩, ?_, fun j hj => ?_⟩
 ·refine ⟨hS.os.trans (hF.os.trans h.fr.os), hS.tape.trans (hF.tape.trans h.fr.tape), hS.output.trans (hF.output.trans h.fr.output), Nat.le_trans h.fr.size (Nat.le_trans hF.size hS.size), fun k hk hn => ?_⟩
  have hkW := Nat.lt_of_lt_of_le hk h.fr.size
  refine (hS.block k (Nat.lt_of_lt_of_le hkW hF.size) fun hm => hn ?_).trans ((hF.block k hkW fun hm => ?_).trans (h.fr.block k hk hn))
  ·simp only [List.mem_singleton] at hm; simp [hm]
  ·rcases h.bl k hm with h1 | h1
   ·exact hn (by simp [h1])
   ·omega
 ·rcases hB j hj with h1 | h1
  ·exact h.bl j h1
  ·exact .inr (Nat.le_trans h.fr.size h1)
theorem QuI.trans {w1 : World} {A1 : Option Addr} {len1 cap1 : Nat} {l1 : List UInt8} (h : QuI w0 w1 b A0 A1 len1 cap1 l1) (k : QuI w1 W b A1 A len cap l) : QuI w0 W b A0 A len cap l := by
 refine ⟨k.qu, ⟨k.fr.os.trans h.fr.os, k.fr.tape.trans h.fr.tape, k.fr.output.trans h.fr.output, Nat.le_trans h.fr.size k.fr.size, fun j hj hn => ?_⟩, fun j hj => ?_⟩
 ·refine (k.fr.block j (Nat.lt_of_lt_of_le hj h.fr.size) fun hm => ?_).trans (h.fr.block j hj hn)
  rcases List.mem_cons.1 hm with rfl | hm
  ·exact hn (by simp)
  ·rcases h.bl j hm with h1 | h1
   ·exact hn (by simp [h1])
   ·omega
 ·rcases k.bl j hj with h1 | h1
  ·exact h.bl j h1
  ·exact .inr (Nat.le_trans h.fr.size h1)
end
theorem hRd_at {w W : World} {T : List Nat} {L : Option Addr} {us : List Nat} {k u : Nat} (h : RdU w L (us.map fun u : Nat => (u : Int))) (hF : Frame T w W) (hL : ∀ g, L = some g → g.block ∉ T) (hk : us[k]? = some u) : ∃ g o, L = some ⟨g, o, none⟩ ∧ g < W.heap.size ∧ W.cell? ⟨g, o + k, none⟩ = some (.int .u64 (u : Int)) :=
 Frame.rd hF h hL k (.int .u64 (u : Int)) (by simp [List.getElem?_map, hk])
theorem new_y (W : World) (v : Value) (T : TypeId) (g : Nat) (hg : g = W.heap.size) : (W.alloc (.cells #[v] T)).cell? ((⟨g, 0, none⟩ : Addr).add 0) = some v := by
 rw [Addr.add_lit]; exact (At.new' W #[v] T hg).cell (i := 0) rfl
set_option maxRecDepth 100000 in
set_option maxHeartbeats 2000000 in
theorem qnat_any (b : Nat) (A : Option Addr) (len cap : Nat) (l : List UInt8) (L : Option Addr) (n cL : Nat) (us : List Nat) (w : World) (h : Qu w b A len cap l) (hn : us.length = n) (hm : n ≤ 1000000) (hlen : len ≤ 1000000000) (hR : RdU w L (us.map fun u : Nat => (u : Int))) (hu : ∀ u ∈ us, u < 18446744073709551616) (hL : ∀ g, L = some g → g.block ∉ b :: blk A) :
  Calls Tryz.prog 96 #[.pointer (some ⟨b, 0, none⟩), .slice L n cL] w fun e w' => e = .returned (.tuple #[]) ∧ ∃ A' len' cap', QuI w w' b A A' len' cap' (l ++ natsB us) := by
 have HR := Lib.hid hR
 have HU := Lib.hid hu
 have HN := Lib.hid hn
 have HL := Lib.hid hL
 have HLL := Lib.hid h.len
 have HS0 : Hid (QuI w w b A A len cap (l ++ natsB (us.take 0))) := by
  show QuI _ _ _ _ _ _ _ _
  rw [List.take_zero]
  simp only [natsB, List.flatMap_nil, List.append_nil]
  exact QuI.start h
 clear hR hu hn h hL
 go_enter Tryz.func96, Tryz.ntmps96
 go_wp2
 go_loopw [5, 8] (fun _ i wr => ∃ k : Nat, k ≤ n ∧ i = .int .i64 k ∧ ∃ A1 len1 cap1, Hid (QuI w wr b A A1 len1 cap1 (l ++ natsB (us.take k)))) (fun _ i _ => n - (intOf i).toNat)
 case atStart => exact ⟨0, by omega, rfl, A, len, cap, HS0⟩
 case round =>
  obtain ⟨k, hk, rfl, A1, len1, cap1, H⟩ := hrel
  clear HS0
  by_cases hlt : k < n
  ·obtain ⟨u, hu⟩ : ∃ u, us[k]? = some u := ⟨_, List.getElem?_eq_getElem (by have := HN.out; omega)⟩
   have hu64 := HU.out u (List.mem_of_getElem? hu)
   have HUK := Lib.hid hu
   have HTK : Hid (natsB (us.take (k + 1)) = natsB (us.take k) ++ natB u) := by
    obtain ⟨hk', e⟩ := List.getElem?_eq_some_iff.1 hu
    show _ = _
    rw [List.take_succ_eq_append_getElem hk', natsB_app, e]
    simp [natsB]
   have HLK : Hid (len1 ≤ len + 10 * k) := by
    have h1 := natsB_len (l := us.take k) fun u hu => HU.out u (List.mem_of_mem_take hu)
    have h2 := H.out.qu.len
    rw [List.length_append] at h2
    rw [List.length_take] at h1
    have := HLL.out
    show _ ≤ _
    omega
   obtain ⟨g, o', rfl, hg, d1⟩ := hRd_at HR.out H.out.fr HL.out hu
   clear hu
   go_wp2
   go_loopw [5] (fun x wi => ∃ (v : Nat) (pre : List UInt8) (A2 : Option Addr) (len2 cap2 : Nat), x = .int .u64 v ∧ Hid (QuI w wi b A A2 len2 cap2 (l ++ natsB (us.take k) ++ pre)) ∧ Hid (pre ++ natB v = natB u) ∧ v ≤ u) (fun x _ => (intOf x).toNat)
   case atStart => exact ⟨u, [], A1, len1, cap1, rfl, by rw [List.append_nil]; exact H, rfl, Nat.le_refl _⟩
   case round =>
    obtain ⟨v, pre, A2, len2, cap2, rfl, HI, HP, hvu⟩ := hrel
    clear H
    have hv64 : v < 18446744073709551616 := by omega
    have HL2 : Hid (len2 ≤ 1020000000) := by
     have h1 := natsB_len (l := us.take k) fun u hu => HU.out u (List.mem_of_mem_take hu)
     have h2 := HI.out.qu.len
     have h3 := congrArg List.length HP.out
     have h4 := natB_len hu64
     rw [List.length_append] at h3
     rw [List.length_append, List.length_append] at h2
     rw [List.length_take] at h1
     have := HLL.out
     show _ ≤ _
     omega
    have f1 := HI.out.qu.at'.one
    have l1 := HI.out.qu.at'.lt
    by_cases hv : 128 ≤ v
    ·have e1 : decide ((128 : Int) ≤ v) = true := decide_eq_true (by omega)
     have e1' : decide (128 ≤ v) = true := decide_eq_true hv
     obtain ⟨p, hp⟩ : ∃ p : Int, bits .or .u8 ((v : Int) % 256) 128 = p := ⟨_, rfl⟩
     have HPV : Hid (p = ((UInt8.ofNat (v % 128 + 128)).toNat : Int)) := by
      show _ = _
      rw [← hp, Lib.u8_or128_any _ (by omega) (by omega), byte_toNat (by omega)]
      omega
     have HP2 : Hid ((pre ++ [UInt8.ofNat (v % 128 + 128)]) ++ natB (v / 128) = natB u) := by
      show _ = _
      rw [← HP.out, natB_hi (u := v) (by omega), List.append_assoc]
      rfl
     have hbe : Below wr.heap.size wr (wr.alloc (.cells #[.int .u8 p] 5)) := (Below.refl _ _).alloc (Nat.le_refl _) _
     have HI2 := Lib.hid (HI.out.below hbe)
     have HNY := Lib.hid (new_y wr (.int .u8 p) 5 wr.heap.size rfl)
     have HZ : Hid (b + 1 ≤ (wr.alloc (.cells #[.int .u8 p] 5)).heap.size) := HI2.out.qu.at'.lt
     clear hbe HI HP
     go_wp2_with (first | (at_builtin; refine wpList_append_y rfl _ _ rfl (b + 1) A2 cap2 len2 (l ++ natsB (us.take k) ++ pre) rfl HI2.out.qu.len HI2.out.qu.own ⟨wr.heap.size, 0, none⟩ 1 (UInt8.ofNat (v % 128 + 128)) p HPV.out rfl HNY.out (by have := HL2.out; omega) HZ.out ?_; intro A3 cap3 W3 HO3 HF3 HB3; have f3 := (HF3.out.at HI2.out.qu.at' (QuI.nb HI2.out.qu)).one; have l3 := (HF3.out.at HI2.out.qu.at' (QuI.nb HI2.out.qu)).lt; have H3 := Lib.hid (HI2.out.app HO3.out (len' := len2 + 1) (by rw [List.length_append, HI2.out.qu.len]; rfl) HF3.out HB3.out); clear f1 l1) | fail)
     exact ⟨⟨v / 128, pre ++ [UInt8.ofNat (v % 128 + 128)], A3, len2 + 1, cap3, by simp, by rw [← List.append_assoc]; exact H3, HP2, by omega⟩, by simp [intOf]; omega⟩
    ·have e1 : decide ((128 : Int) ≤ v) = false := decide_eq_false (by omega)
     have e1' : decide (128 ≤ v) = false := decide_eq_false hv
     have HPV : Hid ((v : Int) = ((UInt8.ofNat v).toNat : Int)) := by
      show _ = _
      rw [byte_toNat (by omega)]
     have HP2 : Hid (pre ++ [UInt8.ofNat v] = natB u) := by
      show _ = _
      rw [← HP.out, natB_lo (u := v) (by omega)]
     have hbe : Below wr.heap.size wr (wr.alloc (.cells #[.int .u8 (v : Int)] 5)) := (Below.refl _ _).alloc (Nat.le_refl _) _
     have HI2 := Lib.hid (HI.out.below hbe)
     have HNY := Lib.hid (new_y wr (.int .u8 (v : Int)) 5 wr.heap.size rfl)
     have HZ : Hid (b + 1 ≤ (wr.alloc (.cells #[.int .u8 (v : Int)] 5)).heap.size) := HI2.out.qu.at'.lt
     clear hbe HI HP
     go_wp2_with (first | (at_builtin; refine wpList_append_y rfl _ _ rfl (b + 1) A2 cap2 len2 (l ++ natsB (us.take k) ++ pre) rfl HI2.out.qu.len HI2.out.qu.own ⟨wr.heap.size, 0, none⟩ 1 (UInt8.ofNat v) (v : Int) HPV.out rfl HNY.out (by have := HL2.out; omega) HZ.out ?_; intro A3 cap3 W3 HO3 HF3 HB3; have f3 := (HF3.out.at HI2.out.qu.at' (QuI.nb HI2.out.qu)).one; have l3 := (HF3.out.at HI2.out.qu.at' (QuI.nb HI2.out.qu)).lt; have H3 := Lib.hid (HI2.out.app HO3.out (len' := len2 + 1) (by rw [List.length_append, HI2.out.qu.len]; rfl) HF3.out HB3.out); clear f1 l1) | fail)
     exact ⟨⟨k + 1, by omega, by simp, A3, len2 + 1, cap3, by have h3 := H3; rw [List.append_assoc, List.append_assoc] at h3; rw [HTK.out, ← HP2.out]; exact h3⟩, by simp [intOf]; omega⟩
  ·obtain rfl : k = n := by omega
   have HT : Hid (us.take k = us) := List.take_of_length_le (by have := HN.out; omega)
   rw [HT.out] at H
   go_wp2
   exact bodyPost_end (results_none rfl _ _ _) rfl ⟨rfl, A1, len1, cap1, H.out⟩
theorem rdU_new (W : World) (x : Int) : RdU (W.alloc (.cells #[.int .u64 x] 23)) (some ⟨W.heap.size, 0, none⟩) [x] := by
 intro j u hj
 have a := At.new W #[.int .u64 x] 23
 refine ⟨W.heap.size, 0, rfl, a.lt, ?_⟩
 have hl := (List.getElem?_eq_some_iff.1 hj).1
 simp at hl
 subst hl
 simp at hj; subst hj; exact a.cell rfl
def RdI (w : World) (A : Option Addr) (xs : List Int) : Prop := Rd w A (xs.map (Value.int .i64))
theorem RdI.below {w w' : World} {A : Option Addr} {xs : List Int} (h : RdI w A xs) (hb : Below w.heap.size w w') : RdI w' A xs := Rd.below h hb
theorem intsB_take {xs : List Int} {k : Nat} {x : Int} (h : xs[k]? = some x) : intsB (xs.take (k + 1)) = intsB (xs.take k) ++ natB (zigN x) := by
 obtain ⟨hk', e⟩ := List.getElem?_eq_some_iff.1 h
 rw [List.take_succ_eq_append_getElem hk', intsB_app, e]
 simp [intsB]
theorem intsB_len : ∀ {l : List Int}, (∀ x ∈ l, -9223372036854775808 ≤ x ∧ x ≤ 9223372036854775807) → (intsB l).length ≤ 10 * l.length
 | [], _ => by simp [intsB]
 | x :: l, h => by
  have h1 := natB_len (zig_lt (h x (by simp)).1 (h x (by simp)).2)
  have h2 := intsB_len (l := l) fun y hy => h y (by simp [hy])
  have e : intsB (x :: l) = natB (zigN x) ++ intsB l := rfl
  rw [e, List.length_append, List.length_cons]; omega
set_option maxRecDepth 100000 in
set_option maxHeartbeats 2000000 in
theorem qint_any (b : Nat) (A : Option Addr) (len cap : Nat) (l : List UInt8) (L : Option Addr) (n cL : Nat) (xs : List Int) (w : World) (h : Qu w b A len cap l) (hn : xs.length = n) (hm : n ≤ 1000000) (hlen : len ≤ 100000000) (hR : RdI w L xs) (hx : ∀ x ∈ xs, -9223372036854775808 ≤ x ∧ x ≤ 9223372036854775807) (hL : ∀ g, L = some g → g.block ∉ b :: blk A) :
  Calls Tryz.prog 202 #[.pointer (some ⟨b, 0, none⟩), .slice L n cL] w fun e w' => e = .returned (.tuple #[]) ∧ ∃ A' len' cap', QuI w w' b A A' len' cap' (l ++ intsB xs) := by
 have HR := Lib.hid hR
 have HX := Lib.hid hx
 have HN := Lib.hid hn
 have HL := Lib.hid hL
 have HLL := Lib.hid h.len
 have HS0 : Hid (QuI w w b A A len cap (l ++ intsB (xs.take 0))) := by
  show QuI _ _ _ _ _ _ _ _
  rw [List.take_zero]
  simp only [intsB, List.flatMap_nil, List.append_nil]
  exact QuI.start h
 clear hR hx hn h hL
 go_enter Tryz.func202, Tryz.ntmps202
 go_wp2
 go_loopw [5, 8] (fun _ i wr => ∃ k : Nat, k ≤ n ∧ i = .int .i64 k ∧ ∃ A1 len1 cap1, Hid (QuI w wr b A A1 len1 cap1 (l ++ intsB (xs.take k)))) (fun _ i _ => n - (intOf i).toNat)
 case atStart => exact ⟨0, by omega, rfl, A, len, cap, HS0⟩
 case round =>
  obtain ⟨k, hk, rfl, A1, len1, cap1, H⟩ := hrel
  clear HS0
  by_cases hlt : k < n
  ·obtain ⟨x, hx⟩ : ∃ x, xs[k]? = some x := ⟨_, List.getElem?_eq_getElem (by have := HN.out; omega)⟩
   have HXB := Lib.hid (HX.out x (List.mem_of_getElem? hx))
   have HTK := Lib.hid (intsB_take hx)
   have HLK : Hid (len1 ≤ 1000000000) := by
    have h1 := intsB_len (l := xs.take k) fun u hu => HX.out u (List.mem_of_mem_take hu)
    have h2 := H.out.qu.len
    rw [List.length_append] at h2
    rw [List.length_take] at h1
    have := HLL.out
    show _ ≤ _
    omega
   obtain ⟨g, o', rfl, hg, d1⟩ := Frame.rd H.out.fr HR.out HL.out k (.int .i64 x) (by simp [List.getElem?_map, hx])
   clear hx
   go_wp2_with fail
   refine (zig_any x wr HXB.out.1 HXB.out.2).mono ?_
   rintro e w1 ⟨rfl, rfl⟩
   obtain ⟨z, hz⟩ : ∃ z, zigN x = z := ⟨_, rfl⟩
   have HZ64 : Hid (z < 18446744073709551616) := by show _ < _; rw [← hz]; exact zig_lt HXB.out.1 HXB.out.2
   rw [hz] at HTK ⊢
   have hbe : Below wr.heap.size wr (wr.alloc (.cells #[.int .u64 (z : Int)] 23)) := (Below.refl _ _).alloc (Nat.le_refl _) _
   have H2 := Lib.hid (H.out.below hbe)
   have HRN := Lib.hid (rdU_new wr (z : Int))
   have HNB : Hid (∀ g, (some ⟨wr.heap.size, 0, none⟩ : Option Addr) = some g → g.block ∉ b :: blk A1) := fun g hg hm => by
    simp only [Option.some.injEq] at hg
    subst hg
    rcases List.mem_cons.1 hm with h | h
    ·have := H.out.qu.at'.lt
     have e : wr.heap.size = b := h
     omega
    ·have h2 : wr.heap.size ∈ blk A1 := h
     have := (OwnY.blk_le H.out.qu.own _ h2).2
     omega
   clear hbe hz hg d1
   go_wp2_with fail
   refine (qnat_any b A1 len1 cap1 (l ++ intsB (xs.take k)) (some ⟨wr.heap.size, 0, none⟩) 1 1 [z] _ H2.out.qu rfl (by omega) HLK.out HRN.out (fun u hu => by rw [List.mem_singleton] at hu; subst hu; exact HZ64.out) HNB.out).mono ?_
   rintro e w2 ⟨rfl, A2, len2, cap2, hQ⟩
   have H3 : Hid (QuI w w2 b A A2 len2 cap2 (l ++ intsB (xs.take (k + 1)))) := by
    have h3 := H2.out.trans hQ
    rw [List.append_assoc, natsB_cons] at h3
    show QuI _ _ _ _ _ _ _ _
    rw [HTK.out]
    simpa [natsB] using h3
   clear hQ H H2 HRN HNB
   go_wp2
   exact ⟨⟨k + 1, by omega, by simp, A2, len2, cap2, H3⟩, by simp [intOf]; omega⟩
  ·obtain rfl : k = n := by omega
   have HT : Hid (xs.take k = xs) := List.take_of_length_le (by have := HN.out; omega)
   rw [HT.out] at H
   go_wp2
   exact bodyPost_end (results_none rfl _ _ _) rfl ⟨rfl, A1, len1, cap1, H.out⟩
set_option maxRecDepth 100000 in
theorem qraw_any (b : Nat) (A : Option Addr) (len cap : Nat) (l k : List UInt8) (st : ByteArray) (w : World) (h : Qu w b A len cap l) (hst : st = txt k) (hlen : len ≤ 1000000000) (hk : k.length ≤ 1000000000) :
  Calls Tryz.prog 95 #[.pointer (some ⟨b, 0, none⟩), .string st] w fun e w' => e = .returned (.tuple #[]) ∧ ∃ A' len' cap', Qu w' b A' len' cap' (l ++ k) ∧ Frame (b :: blk A) w w' := by
 have H := Lib.hid h
 have HST := Lib.hid hst
 have f1 := h.at'.one
 have l1 := h.at'.lt
 have HFIN : Hid (∀ A' cap' w1, OwnY (b + 1) w1 A' cap' (l ++ k) → Frame (blk A) w w1 → Qu (w1.setCell ⟨b, 0, none⟩ (.slice A' (len + k.length) cap')) b A' (len + k.length) cap' (l ++ k) ∧ Frame (b :: blk A) w (w1.setCell ⟨b, 0, none⟩ (.slice A' (len + k.length) cap'))) := fun A' cap' w1 ho hF => by
  have ha := hF.at h.at' (QuI.nb h)
  have hS := Frame.set [b] w1 b 0 (.slice A' (len + k.length) cap') (by simp)
  refine ⟨⟨ha.set_any 0 _ rfl, OwnY.frame ho hS fun j hj hm => by have := (OwnY.blk_le ho j hj).1; simp only [List.mem_singleton] at hm; omega, by rw [List.length_append, h.len]⟩, ?_⟩
  exact (hF.mono fun j hj => by simp [hj]).trans (hS.mono fun j hj => by simp only [List.mem_singleton] at hj; simp [hj])
 have HB : Hid (b + 1 ≤ w.heap.size) := h.at'.lt
 obtain ⟨m, hm⟩ : ∃ m, k.length = m := ⟨_, rfl⟩
 have HM := Lib.hid hm
 rw [hm] at HFIN hk
 clear h hm hst
 go_enter Tryz.func95, Tryz.ntmps95
 go_wp2_with (first | (at_builtin; refine wpList_append_ys rfl _ _ rfl (b + 1) A cap len l rfl H.out.len H.out.own k st HST.out m HM.out rfl (by omega) HB.out ?_; intro A3 cap3 W3 HO3 HF3; have f3 := (HF3.out.at H.out.at' (QuI.nb H.out)).one; have l3 := (HF3.out.at H.out.at' (QuI.nb H.out)).lt; have H3 := Lib.hid (HFIN.out A3 cap3 W3 HO3.out HF3.out); clear f1 l1) | fail)
 exact bodyPost_end (results_none rfl _ _ _) rfl ⟨rfl, A3, _, cap3, H3.out⟩
set_option maxRecDepth 100000 in
theorem qtext_any (b : Nat) (A : Option Addr) (len cap : Nat) (l : List UInt8) (w : World) (h : Qu w b A len cap l) (hl : l ≠ []) :
  Calls Tryz.prog 74 #[.pointer (some ⟨b, 0, none⟩)] w fun e w' => e = .returned (.string (txt l)) ∧ w = w' := by
 have f1 := h.at'.one
 have l1 := h.at'.lt
 have hcv := run_text h.own hl 191 rfl
 rw [h.len] at hcv
 clear h hl
 go_enter Tryz.func74, Tryz.ntmps74
 go_wp2
 go_ret
 exact ⟨rfl, rfl⟩
end Go.Proofs.YtlbnlmhcpephbaaGreatDoor

namespace Go.Proofs.YtlbnlmhcpephbaaGreatDoor
open Go.RowKit
def Eye (w : World) (b : Nat) (l : List UInt8) : Prop := At w b #[.string (txt l), .bool false] 188
theorem Eye.at' {w : World} {b : Nat} {l : List UInt8} (h : Eye w b l) : At w b #[.string (txt l), .bool false] 188 := h
theorem Eye.below {w w' : World} {b : Nat} {l : List UInt8} (h : Eye w b l) (hb : Below w.heap.size w w') : Eye w' b l := At.below h hb
theorem Eye.frame {w w' : World} {b : Nat} {T : List Nat} {l : List UInt8} (h : Eye w b l) (hF : Frame T w w') (hn : b ∉ T) : Eye w' b l := hF.at h hn
theorem Eye.set {w : World} {b : Nat} {l : List UInt8} (h : Eye w b l) (k : List UInt8) : Eye (w.setCell ⟨b, 0, none⟩ (.string (txt k))) b k := At.set_any h 0 _ rfl
set_option maxRecDepth 100000 in
theorem eon_any (l : List UInt8) (w : World) : Calls Tryz.prog 49 #[.string (txt l)] w fun e w' => e = .returned (.pointer (some ⟨w.heap.size, 0, none⟩)) ∧ Eye w' w.heap.size l ∧ Below w.heap.size w w' := by
 go_enter Tryz.func49, Tryz.ntmps49
 go_wp2
 go_ret
 exact ⟨rfl, At.new _ _ _, (Below.refl _ _).alloc (Nat.le_refl _) _⟩
set_option maxRecDepth 100000 in
theorem eraw_any (b n : Nat) (l : List UInt8) (w : World) (h : Eye w b l) (hn : n ≤ l.length) (hl : l.length ≤ 1000000000) :
  Calls Tryz.prog 63 #[.pointer (some ⟨b, 0, none⟩), .int .i64 n] w fun e w' => e = .returned (.string (txt (l.take n))) ∧ w.setCell ⟨b, 0, none⟩ (.string (txt (l.drop n))) = w' := by
 have f1 := h.at'.two
 have l1 := h.at'.lt
 have hsz := txt_size l
 have h1 : (txt l).extract 0 n = txt (l.take n) := by rw [txt_extract]; simp
 have h2 : (txt l).extract n l.length = txt (l.drop n) := by rw [txt_extract, List.take_length]
 obtain ⟨s, hs⟩ : ∃ s, txt l = s := ⟨_, rfl⟩
 rw [hs] at f1 hsz h1 h2
 clear h hs
 go_enter Tryz.func63, Tryz.ntmps63
 go_wp2
 go_ret
 exact ⟨rfl, rfl⟩
theorem txt_one (y : UInt8) : (txt [y]).toList.isEmpty = false := by
 have h : (txt [y]).toList = [y] := by
  rw [ByteArray.toList_eq]
  rfl
 rw [h]; rfl
def CurryY : Nat → (List Value → Prop) → Prop
 | 0, C => C []
 | n + 1, C => ∀ u, CurryY n fun l => C (u :: l)
theorem curryY_elim : ∀ {n : Nat} {C : List Value → Prop}, CurryY n C → ∀ l : List Value, l.length = n → C l
 | 0, _, h, [], _ => h
 | n + 1, _, h, u :: l, hl => curryY_elim (h u) l (by simpa using hl)
theorem or_step {acc c k : Nat} (ha : acc < 2 ^ (7 * k)) (hk : k ≤ 9) (hf : acc + c * 2 ^ (7 * k) < 18446744073709551616) : bits .or .u64 (acc : Int) (IntKind.u64.wrap ((c : Int) * 2 ^ (7 * k))) = ((acc + c * 2 ^ (7 * k) : Nat) : Int) := by
 have e : ((c : Int) * 2 ^ (7 * k)) = ((c * 2 ^ (7 * k) : Nat) : Int) := by simp
 have h1 : c * 2 ^ (7 * k) < 18446744073709551616 := by omega
 rw [e, wraps_u64 _ (by omega) (by omega)]
 have h2 : acc < 18446744073709551616 := by omega
 have h3 : ((2 : Int) ^ (7 * k)) = ((2 ^ (7 * k) : Nat) : Int) := by simp
 rw [bits_join_low .u64 64 (by decide) wraps_u64 (7 * k) (acc : Int) ((c * 2 ^ (7 * k) : Nat) : Int) (by omega) (by rw [h3]; omega) (by omega) (by omega) (by rw [h3, ← Int.natCast_emod, Nat.mul_mod_left]; rfl) (by omega)]
 omega
theorem wp_scope_again {P : Program} {Q : Exit → Act → World → Prop} {a : Act} {w : World} {c rest : Code} (l : Nat) (J : Act → World → Prop) (μ : Act → World → Nat) (hf : findLabel c l = some (.seq .skip rest))
  (pass : ∀ a w, J a w → rest.wp P (Exit.jump l (fun a' w' => J a' w' ∧ μ a' w' < μ a w) Q) a w) (start : (∀ a w, J a w → rest.wp P (Exit.jump l J Q) a w) → c.wp P (Exit.jump l J Q) a w) : (Code.scope c).wp P Q a w :=
 wp_scope_jumps l J μ hf (start fun a w h => Code.wp_mono (fun e a w q => by
  cases e with
  | goto l' => exact ⟨q.1, q.2.1⟩
  | _ => exact q) (pass a w h)) fun a w h => wp_seq (wp_skip (pass a w h))
structure NatJ (w W : World) (b u : Nat) (rest : List UInt8) (k acc rem : Nat) : Prop where
 k9 : k ≤ 9
 lt : acc < 2 ^ (7 * k)
 sum : u = acc + rem * 2 ^ (7 * k)
 pos : 0 < k → 0 < rem
 eye : Eye W b (natB rem ++ rest)
 fr : Frame [b] w W
theorem NatJ.start {w : World} {b u : Nat} {rest : List UInt8} (h : Eye w b (natB u ++ rest)) : NatJ w w b u rest 0 0 u := ⟨by omega, by simp, by simp, by omega, h, Frame.refl _ _⟩
set_option maxRecDepth 100000 in
set_option maxHeartbeats 4000000 in
theorem enat_any (b u : Nat) (most : Int) (rest : List UInt8) (w : World) (h : Eye w b (natB u ++ rest)) (hu : u < 18446744073709551616) (hm : (u : Int) ≤ most) (hl : rest.length ≤ 100000000) :
  Calls Tryz.prog 79 #[.pointer (some ⟨b, 0, none⟩), .int .u64 most] w fun e w' => e = .returned (.int .u64 (u : Int)) ∧ Eye w' b rest ∧ Frame [b] w w' := by
 have HJ0 := Lib.hid (NatJ.start h)
 clear h
 go_enter Tryz.func79, Tryz.ntmps79
 go_wp2
 refine wp_scope_again 0 (fun a' w' => ∃ (k acc rem : Nat) (l : List Value), a' = { tmps := (.pointer (some ⟨b, 0, none⟩) :: .int .u64 most :: undef :: undef :: .int .u64 0 :: .int .u64 acc :: .int .i64 ((7 * k : Nat) : Int) :: l).toArray, defers := [] } ∧ l.length = 42 ∧ Hid (NatJ w w' b u rest k acc rem)) (fun a' _ => 70 - (intOf (a'.tmps.getD 6 undef)).toNat) rfl ?_ ?_
 ·rintro a' w0 ⟨k, acc, rem, l, rfl, hlen, HJ⟩
  revert hlen
  revert l
  refine curryY_elim ?_
  intro u1 u2 u3 u4 u5 u6 u7 u8 u9 u10 u11 u12 u13 u14 u15 u16 u17 u18 u19 u20 u21 u22 u23 u24 u25 u26 u27 u28 u29 u30 u31 u32 u33 u34 u35 u36 u37 u38 u39 u40 u41 u42
  clear HJ0
  have hk9 := HJ.out.k9
  have hbig : rem * 2 ^ (7 * k) ≤ u := by have := HJ.out.sum; omega
  have hpos := Nat.two_pow_pos (7 * k)
  have hrem : rem < 18446744073709551616 := by
   have := Nat.le_mul_of_pos_right rem hpos
   omega
  obtain ⟨c, hc, hmod, hcase⟩ := natB_cons rem
  obtain ⟨y, hy⟩ : ∃ y, UInt8.ofNat c = y := ⟨_, rfl⟩
  have hyc : y.toNat = c := by rw [← hy]; exact byte_toNat hc
  rw [hy] at hcase
  obtain ⟨more, hmore⟩ : ∃ more, natB rem ++ rest = y :: more := by
   rcases hcase with ⟨_, _, _, h⟩ | ⟨_, _, h⟩ <;> exact ⟨_, by rw [h]; rfl⟩
  have HML : Hid ((y :: more).length ≤ 1000000000) := by show _ ≤ _; rw [← hmore, List.length_append]; have := natB_len hrem; omega
  have HM := Lib.hid hmore
  have HE2 : Hid (Eye w0 b (y :: more)) := by show Eye _ _ _; rw [← hmore]; exact HJ.out.eye
  dsimp only [CurryY]
  obtain ⟨sh, hsh⟩ : ∃ sh : Int, ((7 * k : Nat) : Int) = sh := ⟨_, rfl⟩
  have HSH := Lib.hid hsh
  have hs0 : 0 ≤ sh ∧ sh ≤ 63 := by omega
  rw [hsh]
  obtain ⟨m, hm0⟩ : ∃ m : Nat, c % 128 = m := ⟨_, rfl⟩
  have hml : m < 128 := by omega
  have hand : bits .and .u8 (c : Int) 127 = (m : Int) := by rw [u8_and127 _ (by omega) (by omega)]; omega
  have hw : IntKind.u64.wrap (m : Int) = m := wraps_u64 _ (by omega) (by omega)
  have HK0 : Hid (k = 0 ∨ 0 < rem) := by
   rcases Nat.eq_zero_or_pos k with h | h
   ·exact .inl h
   ·exact .inr (HJ.out.pos h)
  have HK9 : Hid (k = 9 → c ≤ 1 ∧ c < 128) := fun h9 => by
   subst h9
   have h1 : rem * 9223372036854775808 ≤ u := hbig
   rcases hcase with ⟨_, _, h, _⟩ | ⟨_, h, _⟩
   ·omega
   ·omega
  clear hy hsh hpos hbig
  go_wp2_with fail
  refine (eraw_any b 1 (y :: more) w0 HE2.out (by simp) HML.out).mono ?_
  rintro e w1 ⟨rfl, hW1⟩
  have h1 : (y :: more).take 1 = [y] := rfl
  have h2 : (y :: more).drop 1 = more := rfl
  rw [h1]
  rw [h2] at hW1
  obtain ⟨s, hs⟩ : ∃ s, txt [y] = s := ⟨_, rfl⟩
  have hsz : s.size = 1 := by rw [← hs]; rfl
  have hget : ∀ h : 0 < s.size, s[0]'h = y := by subst hs; intro h; rfl
  have hemp : s.toList.isEmpty = false := by rw [← hs]; exact txt_one y
  rw [hs]
  clear hs h1 h2
  obtain ⟨nx, hnx⟩ : ∃ n, acc + m * 2 ^ (7 * k) = n := ⟨_, rfl⟩
  have HW1 : Hid (more = (if c < 128 then rest else natB (rem / 128) ++ rest)) := by
   show _ = _
   have := HM.out
   rcases hcase with ⟨i1, _, _, h⟩ | ⟨i1, _, h⟩
   ·rw [if_pos i1]; rw [h] at this; simpa using this.symm
   ·rw [if_neg (by omega)]; rw [h] at this; simpa using this.symm
  have HN64 : Hid (nx < 18446744073709551616) := by
   show _ < _
   have h1 := HJ.out.sum
   have h2 : m * 2 ^ (7 * k) ≤ rem * 2 ^ (7 * k) := Nat.mul_le_mul_right _ (by omega)
   omega
  have hor : bits .or .u64 (acc : Int) (IntKind.u64.wrap ((m : Int) * 2 ^ sh.toNat)) = (nx : Int) := by
   have e : sh.toNat = 7 * k := by have := HSH.out; omega
   rw [e, or_step HJ.out.lt HJ.out.k9 (by rw [hnx]; exact HN64.out), hnx]
  have HMLT : Hid (nx = acc + m * 2 ^ (7 * k)) := hnx.symm
  have hF1 : Frame [b] w w1 := by rw [← hW1]; exact HJ.out.fr.trans (Frame.set [b] w0 b 0 _ (by simp))
  have hE1 : Eye w1 b more := by rw [← hW1]; exact Eye.set HE2.out more
  have HF1 := Lib.hid hF1
  have HE1 := Lib.hid hE1
  clear hF1 hE1 hW1 HE2
  have HS3 : Hid ((k = 0 ∧ sh = 0 ∧ (sh == 63) = false ∧ decide (0 < sh) = false) ∨ (0 < k ∧ c ≠ 0 ∧ ((k = 9 ∧ (sh == 63) = true) ∨ (sh == 63) = false) ∧ decide (0 < sh) = true)) := by
   have h0 := HSH.out
   rcases HK0.out with h | h
   ·exact .inl ⟨h, by omega, beq_eq_false_iff_ne.2 (by omega), decide_eq_false (by omega)⟩
   ·by_cases hk : k = 0
    ·exact .inl ⟨hk, by omega, beq_eq_false_iff_ne.2 (by omega), decide_eq_false (by omega)⟩
    ·refine .inr ⟨by omega, ?_, ?_, decide_eq_true (by omega)⟩
     ·rcases hcase with ⟨_, _, h1, _⟩ | ⟨h1, _, _⟩ <;> omega
     ·by_cases h9 : k = 9
      ·exact .inl ⟨h9, beq_iff_eq.2 (by omega)⟩
      ·exact .inr (beq_eq_false_iff_ne.2 (by omega))
  clear hnx
  rcases hcase with ⟨i1, i2, i3, i4⟩ | ⟨i1, i2, i4⟩
  ·have e1 : decide ((128 : Int) ≤ c) = false := decide_eq_false (by omega)
   have e1' : decide (128 ≤ c) = false := decide_eq_false (by omega)
   have HU : Hid (nx = u) := by show _ = _; rw [HMLT.out, HJ.out.sum, show m = rem by omega]
   have e2 : decide ((nx : Int) ≤ most) = true := decide_eq_true (by have := HU.out; omega)
   have HMR : Hid (more = rest) := by show _ = _; rw [HW1.out, if_pos i1]
   have HEND : Hid (Eye w1 b rest ∧ Frame [b] w w1) := ⟨by rw [← HMR.out]; exact HE1.out, HF1.out⟩
   have HRES : Hid ((u : Int) = (nx : Int)) := by show _ = _; rw [HU.out]
   have HK9' := HK9
   clear i3 i4 i2 hm0 hmod HW1 HE1 HF1 hml
   rcases HS3.out with ⟨k0, s0, h63, hp⟩ | ⟨k0, cn, h63, hp⟩
   ·clear k0 s0 HS3 HK9 HK9' HSH
    by_cases hc0 : c = 0
    ·subst hc0
     have hand0 : bits .and .u8 0 127 = (m : Int) := hand
     clear hand
     go_wp2
     simp only [Exit.jump]
     go_ret
     exact ⟨by rw [HRES.out]; rfl, HEND.out⟩
    ·have hz : ((c : Int) == 0) = false := beq_eq_false_iff_ne.2 (by omega)
     clear hc0
     go_wp2
     simp only [Exit.jump]
     go_ret
     exact ⟨by rw [HRES.out]; rfl, HEND.out⟩
   ·have hz : ((c : Int) == 0) = false := beq_eq_false_iff_ne.2 (by omega)
    rcases h63 with ⟨k9, h63⟩ | h63
    ·have hc1 : decide ((1 : Int) < c) = false := decide_eq_false (by have := (HK9.out k9).1; omega)
     have hc1' : decide (1 < c) = false := decide_eq_false (by have := (HK9.out k9).1; omega)
     clear k0 cn k9 HS3 HK9 HK9' HSH
     go_wp2
     simp only [Exit.jump]
     go_ret
     exact ⟨by rw [HRES.out]; rfl, HEND.out⟩
    ·clear k0 cn HS3 HK9 HK9' HSH
     go_wp2
     simp only [Exit.jump]
     go_ret
     exact ⟨by rw [HRES.out]; rfl, HEND.out⟩
  ·have e1 : decide ((128 : Int) ≤ c) = true := decide_eq_true (by omega)
   have e1' : decide (128 ≤ c) = true := decide_eq_true (by omega)
   have HK8 : Hid (k ≤ 8) := by
    show _ ≤ _
    by_cases h9 : k = 9
    ·have := (HK9.out h9).2; omega
    ·omega
   have HJ2 : Hid (NatJ w w1 b u rest (k + 1) nx (rem / 128)) := by
    have hp2 : 2 ^ (7 * (k + 1)) = 2 ^ (7 * k) * 128 := by rw [show 7 * (k + 1) = 7 * k + 7 by omega, Nat.pow_add]
    refine ⟨by have := HK8.out; omega, ?_, ?_, fun _ => by omega, ?_, HF1.out⟩
    ·rw [HMLT.out, hp2]
     have h1 := HJ.out.lt
     have h2 : m * 2 ^ (7 * k) ≤ 127 * 2 ^ (7 * k) := Nat.mul_le_mul_right _ (by omega)
     omega
    ·rw [HMLT.out, hp2, HJ.out.sum]
     have h1 : rem = m + rem / 128 * 128 := by omega
     have h2 : rem * 2 ^ (7 * k) = m * 2 ^ (7 * k) + rem / 128 * (2 ^ (7 * k) * 128) := by
      conv => lhs; rw [h1]
      rw [Nat.add_mul, Nat.mul_assoc, Nat.mul_comm 128]
     omega
    ·have := HE1.out
     rw [HW1.out, if_neg (by omega)] at this
     exact this
   have hs56 : sh ≤ 56 := by have := HSH.out; have := HK8.out; omega
   have HZ7 : Hid (sh + 7 = ((7 * (k + 1) : Nat) : Int)) := by have := HSH.out; show _ = _; omega
   have hz : ((c : Int) == 0) = false := beq_eq_false_iff_ne.2 (by omega)
   have h63 : (sh == 63) = false := beq_eq_false_iff_ne.2 (by omega)
   have HMU : Hid (70 - (intOf (.int .i64 ((7 * (k + 1) : Nat) : Int))).toNat < 70 - (intOf (.int .i64 sh)).toNat) := by
    have := HSH.out
    show _ < _
    simp only [intOf]
    omega
   clear i2 i4 hm0 hmod HW1 HE1 HF1 HS3 HK9 HK0
   rcases (show decide (0 < sh) = false ∨ decide (0 < sh) = true by cases decide (0 < sh) <;> simp) with hp | hp
   all_goals
    go_wp2
    go_step3
    rw [HZ7.out]
    exact ⟨rfl, ⟨k + 1, nx, rem / 128, _, rfl, rfl, HJ2⟩, HMU.out⟩
 ·intro START
  go_wp2_with fail
  refine wp_label ?_
  rename_i K0 hK0
  exact hK0 _ _ (START _ _ ⟨0, 0, u, _, rfl, rfl, HJ0⟩)
end Go.Proofs.YtlbnlmhcpephbaaGreatDoor

namespace Go.Proofs.YtlbnlmhcpephbaaGreatDoor
open Go.RowKit
set_option maxRecDepth 100000 in
theorem eint_any (b : Nat) (x : Int) (rest : List UInt8) (w : World) (h : Eye w b (natB (zigN x) ++ rest)) (h1 : -9223372036854775808 ≤ x) (h2 : x ≤ 9223372036854775807) (hl : rest.length ≤ 100000000) :
  Calls Tryz.prog 82 #[.pointer (some ⟨b, 0, none⟩)] w fun e w' => e = .returned (.int .i64 x) ∧ Eye w' b rest ∧ Frame [b] w w' := by
 have hz := zig_lt h1 h2
 have HN := Lib.hid (enat_any b (zigN x) 18446744073709551615 rest w h hz (by omega) hl)
 have HZ := Lib.hid fun W => zag_any (zigN x) W hz
 have HX : Hid (zagI (zigN x) = x) := zag_zig x
 obtain ⟨u, hu⟩ : ∃ u, zigN x = u := ⟨_, rfl⟩
 rw [hu] at HN HZ HX
 clear h hz hu
 go_enter Tryz.func82, Tryz.ntmps82
 go_wp2_with fail
 refine HN.out.mono ?_
 rintro e w1 ⟨rfl, hE, hF⟩
 have HE := Lib.hid (And.intro hE hF)
 clear hE hF
 go_wp2_with fail
 refine (HZ.out w1).mono ?_
 rintro e w2 ⟨rfl, rfl⟩
 rw [HX.out]
 go_wp2
 go_ret
 exact ⟨rfl, HE.out⟩
set_option maxRecDepth 100000 in
theorem esmall_any (b u : Nat) (most : Int) (rest : List UInt8) (w : World) (h : Eye w b (natB u ++ rest)) (hm : (u : Int) ≤ most) (hm' : most ≤ 1000000000) (hl : rest.length ≤ 100000000) :
  Calls Tryz.prog 64 #[.pointer (some ⟨b, 0, none⟩), .int .i64 most] w fun e w' => e = .returned (.int .i64 (u : Int)) ∧ Eye w' b rest ∧ Frame [b] w w' := by
 have HN := Lib.hid (enat_any b u most rest w h (by omega) hm hl)
 have hmx : max most 0 = most := by omega
 clear h
 go_enter Tryz.func64, Tryz.ntmps64
 go_wp2_with fail
 refine HN.out.mono ?_
 rintro e w1 ⟨rfl, hE, hF⟩
 have HE := Lib.hid (And.intro hE hF)
 clear hE hF
 go_wp2
 go_ret
 exact ⟨rfl, HE.out⟩
set_option maxRecDepth 100000 in
theorem ecount_any (b u : Nat) (rest : List UInt8) (w : World) (h : Eye w b (natB u ++ rest)) (h1 : 0 < u) (hm : u ≤ 9223372036854775807) (hl : rest.length ≤ 100000000) :
  Calls Tryz.prog 90 #[.pointer (some ⟨b, 0, none⟩)] w fun e w' => e = .returned (.int .u64 (u : Int)) ∧ Eye w' b rest ∧ Frame [b] w w' := by
 have HN := Lib.hid (enat_any b u 9223372036854775807 rest w h (by omega) (by omega) hl)
 have hz : ((u : Int) == 0) = false := beq_eq_false_iff_ne.2 (by omega)
 clear h h1
 go_enter Tryz.func90, Tryz.ntmps90
 go_wp2_with fail
 refine HN.out.mono ?_
 rintro e w1 ⟨rfl, hE, hF⟩
 have HE := Lib.hid (And.intro hE hF)
 clear hE hF
 go_wp2
 go_ret
 exact ⟨rfl, HE.out⟩
set_option maxRecDepth 100000 in
theorem ebad_any (b : Nat) (l : List UInt8) (w : World) (h : Eye w b l) :
  Calls Tryz.prog 84 #[.pointer (some ⟨b, 0, none⟩)] w fun e w' => e = .returned (.bool false) ∧ w = w' := by
 have f1 := h.at'.two
 have l1 := h.at'.lt
 clear h
 go_enter Tryz.func84, Tryz.ntmps84
 go_wp2
 go_ret
 exact ⟨rfl, rfl⟩
set_option maxRecDepth 100000 in
theorem eover_any (b : Nat) (w : World) (h : Eye w b []) :
  Calls Tryz.prog 51 #[.pointer (some ⟨b, 0, none⟩)] w fun e w' => e = .returned (.bool true) ∧ w = w' := by
 have f1 := h.at'.two
 have l1 := h.at'.lt
 have hemp : (txt []).toList.isEmpty = true := by rw [ByteArray.toList_eq]; rfl
 obtain ⟨s, hs⟩ : ∃ s, txt [] = s := ⟨_, rfl⟩
 rw [hs] at f1 hemp
 clear h hs
 go_enter Tryz.func51, Tryz.ntmps51
 go_wp2
 go_ret
 exact ⟨rfl, rfl⟩
end Go.Proofs.YtlbnlmhcpephbaaGreatDoor

namespace Go.Proofs.YtlbnlmhcpephbaaGreatDoor
open Go.RowKit
set_option maxRecDepth 100000 in
theorem fstep_any (c b : Int) (w : World) (hc : 0 ≤ c ∧ c < 4294967296) (hb : 0 ≤ b ∧ b < 256) :
  Calls Tryz.prog 80 #[.int .u32 c, .int .u8 b] w fun e w' => e = .returned (.int .u32 (crcByte c b)) ∧ Below w.heap.size w w' := by
 obtain ⟨c0, hc0⟩ : ∃ c0, bits .xor .u32 c b = c0 := ⟨_, rfl⟩
 have HC0 : Hid (0 ≤ c0 ∧ c0 < 4294967296) := by show _ ∧ _; rw [← hc0]; exact bits_u32 _ _ _
 have HR : Hid (crcByte c b = crcN 8 c0) := by show _ = _; unfold crcByte; rw [hc0]
 have HS0 : Hid (crcN 0 c0 = c0) := rfl
 go_enter Tryz.func80, Tryz.ntmps80
 go_wp2
 go_loopw [0, 9] (fun c i wr => ∃ k : Nat, k ≤ 8 ∧ i = .int .i64 k ∧ c = .int .u32 (crcN k c0) ∧ Hid (Below w.heap.size w wr)) (fun _ i _ => 8 - (intOf i).toNat)
 case atStart => exact ⟨0, by omega, rfl, by rw [HS0.out, ← hc0], Below.refl _ _⟩
 case round =>
  obtain ⟨k, hk, rfl, rfl, HB⟩ := hrel
  clear HS0 hc0
  by_cases hlt : k < 8
  ·obtain ⟨x, hx⟩ : ∃ x, crcN k c0 = x := ⟨_, rfl⟩
   have hbd : 0 ≤ x ∧ x < 4294967296 := by rw [← hx]; exact crcN_bd HC0.out k
   have HN : Hid (crcN (k + 1) c0 = crcBit x) := by show crcBit _ = _; rw [hx]
   have ha := u32_and1 x hbd.1 hbd.2
   rw [hx]
   clear hx
   by_cases h1 : x % 2 = 1
   ·have HX : Hid (crcBit x = bits .xor .u32 (x / 2) 3988292384) := by show _ = _; unfold crcBit; rw [if_pos h1]
    go_wp2
    go_roundw
    case rel => exact ⟨k + 1, by omega, by simp, by rw [HN.out, HX.out], HB⟩
    case measure => simp [intOf]; omega
   ·have HX : Hid (crcBit x = x / 2) := by show _ = _; unfold crcBit; rw [if_neg h1]
    have h2 : (x % 2 == 1) = false := beq_eq_false_iff_ne.2 h1
    go_wp2
    go_roundw
    case rel => exact ⟨k + 1, by omega, by simp, by rw [HN.out, HX.out], HB⟩
    case measure => simp [intOf]; omega
  ·obtain rfl : k = 8 := by omega
   go_wp2
   go_ret
   exact ⟨by rw [HR.out]; rfl, HB.out⟩
set_option maxRecDepth 100000 in
theorem fsum_any (l : List UInt8) (w : World) (hl : l.length ≤ 1000000000) :
  Calls Tryz.prog 66 #[.string (txt l)] w fun e w' => e = .returned (.int .u32 (sumY l)) ∧ Below w.heap.size w w' := by
 have hsz := txt_size l
 have HGET : Hid (∀ k (hk : k < l.length) (h : k < (txt l).size), (txt l)[k]'h = l[k]'hk) := fun k hk h => rfl
 obtain ⟨s, hs⟩ : ∃ s, txt l = s := ⟨_, rfl⟩
 obtain ⟨n, hn⟩ : ∃ n, l.length = n := ⟨_, rfl⟩
 have HN := Lib.hid hn
 rw [hs] at hsz HGET ⊢
 rw [hn] at hsz hl
 clear hs hn
 go_enter Tryz.func66, Tryz.ntmps66
 go_wp2
 go_loopw [3, 4, 7] (fun c _ i wr => ∃ k : Nat, k ≤ n ∧ i = .int .i64 k ∧ c = .int .u32 (crcAll (l.take k)) ∧ Hid (Below w.heap.size w wr)) (fun _ _ i _ => n - (intOf i).toNat)
 case atStart => exact ⟨0, by omega, rfl, rfl, Below.refl _ _⟩
 case round =>
  obtain ⟨k, hk, rfl, rfl, HB⟩ := hrel
  by_cases hlt : k < n
  ·have HCR := Lib.hid (crcAll_take l k (by have := HN.out; omega))
   have HBD := Lib.hid (crcAll_bd (l.take k))
   have hget := HGET.out k (by have := HN.out; omega)
   obtain ⟨y, hy⟩ : ∃ y, l[k]'(by have := HN.out; omega) = y := ⟨_, rfl⟩
   rw [hy] at HCR hget
   obtain ⟨x, hx⟩ : ∃ x, crcAll (l.take k) = x := ⟨_, rfl⟩
   rw [hx] at HBD HCR ⊢
   clear hy hx
   go_wp2_with fail
   refine (fstep_any x (y.toNat : Int) wr HBD.out (by have := y.toNat_lt; omega)).mono ?_
   rintro e w1 ⟨rfl, hb⟩
   rw [← HCR.out]
   have HB1 := Lib.hid (keep1 HB.out hb)
   clear hb HB
   go_wp2
   go_roundw
   case rel => exact ⟨k + 1, by omega, by simp, rfl, HB1⟩
   case measure => simp [intOf]; omega
  ·obtain rfl : k = n := by omega
   have HT : Hid (l.take k = l) := List.take_of_length_le (by have := HN.out; omega)
   rw [HT.out]
   go_wp2
   go_ret
   exact ⟨rfl, HB.out⟩
theorem conv_new (W : World) (l : List UInt8) (vs : Array Value) (n : Nat) (hn : l.length = n) (hv : vs = (l.map fun b => Value.int .u8 (b.toNat : Int)).toArray) :
  (convert 191 9 (.slice (some ⟨W.heap.size, 0, none⟩) n n)).run Tryz.prog (W.alloc (.cells vs 5)) = .ok (.string (txt l)) (W.alloc (.cells vs 5)) := by
 subst hn hv
 refine run_convert_bytes_back _ _ _ 5 ⟨W.heap.size, 0, none⟩ l.length l (by kernel_rfl) (by kernel_rfl) (by kernel_rfl) fun j hj => ?_
 rw [Addr.add_lit]
 have := (At.new W (l.map fun b => Value.int .u8 (b.toNat : Int)).toArray 5).cell (i := j) (v := .int .u8 (l[j].toNat : Int)) (by simp [hj])
 simpa using this
set_option maxRecDepth 100000 in
theorem ffour_any (c : Int) (w : World) (hc : 0 ≤ c ∧ c < 4294967296) :
  Calls Tryz.prog 65 #[.int .u32 c] w fun e w' => e = .returned (.string (txt (fourY c))) ∧ Below w.heap.size w w' := by
 have hcv := conv_new w (fourY c) #[.int .u8 (c % 256), .int .u8 (c / 256 % 256), .int .u8 (c / 65536 % 256), .int .u8 (c / 16777216)] 4 rfl (by
  simp only [fourY, List.map_cons, List.map_nil]
  rw [byteI (by omega) (by omega), byteI (by omega) (by omega), byteI (by omega) (by omega), byteI (by omega) (by omega), show c / 16777216 % 256 = c / 16777216 by omega])
 go_enter Tryz.func65, Tryz.ntmps65
 go_wp2
 go_ret
 exact ⟨rfl, (by repeat (first | with_reducible assumption | with_reducible exact Below.refl _ _ | with_reducible refine Below.drew ?_ | with_reducible refine Below.drewN ?_ _ | with_reducible refine Below.setCell ?_ (by first | omega | (simp; done) | (simp; omega)) _ | with_reducible refine Below.alloc ?_ (by first | omega | (simp; done) | (simp; omega) | (simp [World.setCell]; omega)) _))⟩
end Go.Proofs.YtlbnlmhcpephbaaGreatDoor

namespace Go.Proofs.YtlbnlmhcpephbaaGreatDoor
open Go.RowKit
structure QuB (w W : World) (b : Nat) (A : Option Addr) (len cap : Nat) (l : List UInt8) : Prop where
 qu : Qu W b A len cap l
 bl : Below b w W
section
variable {w W W' : World} {b len len' cap cap' : Nat} {A A' : Option Addr} {l l' : List UInt8}
theorem QuB.below (h : QuB w W b A len cap l) (hb : Below W.heap.size W W') : QuB w W' b A len cap l := ⟨h.qu.below hb, h.bl.trans (hb.mono (Nat.le_of_lt h.qu.at'.lt))⟩
theorem QuB.step (h : QuB w W b A len cap l) (hQ : Qu W' b A' len' cap' l') (hF : Frame (b :: blk A) W W') : QuB w W' b A' len' cap' l' :=
 ⟨hQ, hF.below h.bl (Nat.le_of_lt h.qu.at'.lt) fun k hk => by
  rcases List.mem_cons.1 hk with rfl | hk
  ·exact Nat.le_refl _
  ·have := (OwnY.blk_le h.qu.own k hk).1; omega⟩
theorem QuB.stepI (h : QuB w W b A len cap l) (hQ : QuI W W' b A A' len' cap' l') : QuB w W' b A' len' cap' l' := h.step hQ.qu hQ.fr
theorem QuB.new (w : World) : QuB w (w.alloc (.cells #[.slice none 0 0] 193)) w.heap.size none 0 0 [] := ⟨⟨At.new _ _ _, OwnY.nil _ _, rfl⟩, (Below.refl _ _).alloc (Nat.le_refl _) _⟩
theorem QuB.fresh (h : Qu W b A len cap l) (g : Nat) (hg : W.heap.size ≤ g) : ∀ a, (some ⟨g, 0, none⟩ : Option Addr) = some a → a.block ∉ b :: blk A := fun a ha hm => by
 simp only [Option.some.injEq] at ha
 subst ha
 rcases List.mem_cons.1 hm with h1 | h1
 ·have := h.at'.lt
  have e : g = b := h1
  omega
 ·have h2 : g ∈ blk A := h1
  have := (OwnY.blk_le h.own _ h2).2
  omega
end
set_option maxRecDepth 100000 in
set_option maxHeartbeats 2000000 in
theorem fclose_any (kind : Nat) (load : List UInt8) (st : ByteArray) (w : World) (hk : kind < 256) (hst : st = txt load) (hl : load.length ≤ 262144) :
  Calls Tryz.prog 73 #[.int .u8 (kind : Int), .string st] w fun e w' => e = .returned (.tuple #[.string (txt (frameY kind load)), .int .i64 0]) ∧ Below w.heap.size w w' := by
 have hsz : st.size = load.length := by rw [hst]; exact txt_size load
 have HST := Lib.hid hst
 have HKC : Hid (((UInt8.ofNat kind).toNat : Int) = kind) := by show _ = _; rw [byte_toNat hk]
 have h0 := QuB.new w
 obtain ⟨b, hb⟩ : ∃ b, w.heap.size = b := ⟨_, rfl⟩
 have HBB := Lib.hid hb
 obtain ⟨n, hn⟩ : ∃ n, load.length = n := ⟨_, rfl⟩
 have HN := Lib.hid hn
 rw [hn] at hsz hl
 clear hn hst
 go_enter Tryz.func73, Tryz.ntmps73
 go_wp2_with fail
 obtain ⟨W0, hW0⟩ : ∃ W, w.alloc (.cells #[.slice none 0 0] 193) = W := ⟨_, rfl⟩
 rw [hW0, hb] at h0
 simp only [hW0, hb]
 have H0 := Lib.hid h0
 clear hW0 h0 hb
 refine (qraw_any b none 0 0 [] [79, 71, 1] _ W0 H0.out.qu rfl (by omega) (by decide)).mono ?_
 rintro e w1 ⟨rfl, A1, len1, cap1, hQ, hF⟩
 have H1 := Lib.hid (H0.out.step hQ hF)
 have hcv := conv_new w1 [UInt8.ofNat kind] #[.int .u8 (kind : Int)] 1 rfl (by simp only [List.map_cons, List.map_nil]; rw [HKC.out])
 clear hQ hF H0
 go_wp2_with fail
 have hbe : Below w1.heap.size w1 (w1.alloc (.cells #[.int .u8 (kind : Int)] 5)) := (Below.refl _ _).alloc (Nat.le_refl _) _
 have H2 := Lib.hid (H1.out.below hbe)
 clear hcv hbe H1
 refine (qraw_any b A1 len1 cap1 ([] ++ [79, 71, 1]) [UInt8.ofNat kind] _ _ H2.out.qu rfl (by have := H2.out.qu.len; simp at this; omega) (by simp)).mono ?_
 rintro e w2 ⟨rfl, A2, len2, cap2, hQ, hF⟩
 have H3 := Lib.hid (H2.out.step hQ hF)
 have hbe : Below w2.heap.size w2 (w2.alloc (.cells #[.int .u64 (n : Int)] 23)) := (Below.refl _ _).alloc (Nat.le_refl _) _
 have H4 := Lib.hid (H3.out.below hbe)
 have HRN := Lib.hid (rdU_new w2 (n : Int))
 have HFR := Lib.hid (QuB.fresh H3.out.qu w2.heap.size (Nat.le_refl _))
 have HL2 : Hid (len2 = 4) := by have := H3.out.qu.len; simp at this; exact this.symm
 clear hQ hF H2 H3 hbe
 go_wp2_with fail
 refine (qnat_any b A2 len2 cap2 _ (some ⟨w2.heap.size, 0, none⟩) 1 1 [n] _ H4.out.qu rfl (by omega) (by have := HL2.out; omega) HRN.out (fun u hu => by rw [List.mem_singleton] at hu; omega) HFR.out).mono ?_
 rintro e w3 ⟨rfl, A3, len3, cap3, hQ⟩
 have H5 := Lib.hid (H4.out.stepI hQ)
 have HL3 : Hid (len3 ≤ 100) := by
  have h1 := H5.out.qu.len
  have h2 := natsB_len (l := [n]) fun u hu => by rw [List.mem_singleton] at hu; omega
  rw [List.length_append] at h1
  simp at h1 h2
  show _ ≤ _
  omega
 clear hQ H4 HRN HFR HL2
 go_wp2_with fail
 refine (qraw_any b A3 len3 cap3 _ load st w3 H5.out.qu HST.out (by have := HL3.out; omega) (by have := HN.out; omega)).mono ?_
 rintro e w4 ⟨rfl, A4, len4, cap4, hQ, hF⟩
 obtain ⟨T, hT⟩ : ∃ T, [] ++ [79, 71, 1] ++ [UInt8.ofNat kind] ++ natsB [n] ++ load = T := ⟨_, rfl⟩
 have HTF : Hid (T ++ fourY (sumY T) = frameY kind load) := by
  show _ = _
  rw [← hT]
  simp [frameY, natsB, HN.out]
 have h6 := H5.out.step hQ hF
 rw [hT] at h6
 have H6 := Lib.hid h6
 have HLT : Hid (T.length ≤ 1000000 ∧ T ≠ []) := by
  have h1 := H5.out.qu.len
  have h2 := HL3.out
  have h3 := HN.out
  refine ⟨?_, ?_⟩
  ·rw [← hT, List.length_append, h1]; omega
  ·rw [← hT]; simp
 clear hQ hF h6 H5 hT HL3
 go_wp2_with fail
 refine (qtext_any b A4 len4 cap4 T w4 H6.out.qu HLT.out.2).mono ?_
 rintro e w5 ⟨rfl, rfl⟩
 go_wp2_with fail
 refine (fsum_any T w4 (by have := HLT.out.1; omega)).mono ?_
 rintro e w5 ⟨rfl, hb⟩
 have H7 := Lib.hid (H6.out.below hb)
 clear hb H6
 go_wp2_with fail
 refine (ffour_any (sumY T) w5 (sumY_bd T)).mono ?_
 rintro e w6 ⟨rfl, hb⟩
 have H8 := Lib.hid (H7.out.below hb)
 clear hb H7
 go_wp2_with fail
 refine (qraw_any b A4 len4 cap4 T (fourY (sumY T)) _ w6 H8.out.qu rfl (by have := H8.out.qu.len; have := HLT.out.1; omega) (by rw [fourY_len]; omega)).mono ?_
 rintro e w7 ⟨rfl, A5, len5, cap5, hQ, hF⟩
 have h9 := H8.out.step hQ hF
 rw [HTF.out] at h9
 have H9 := Lib.hid h9
 have HNE : Hid (frameY kind load ≠ []) := by show _ ≠ _; rw [← HTF.out]; intro h; exact HLT.out.2 (List.append_eq_nil_iff.1 h).1
 clear hQ hF h9 H8
 go_wp2_with fail
 refine (qtext_any b A5 len5 cap5 _ w7 H9.out.qu HNE.out).mono ?_
 rintro e w8 ⟨rfl, rfl⟩
 go_wp2
 go_ret2
 exact ⟨rfl, by rw [HBB.out]; exact H9.out.bl⟩
set_option maxRecDepth 100000 in
set_option maxHeartbeats 2000000 in
theorem fopen_any (kind : Nat) (load : List UInt8) (w : World) (hk : kind < 256) (hl : load.length ≤ 262144) :
  Calls Tryz.prog 48 #[.string (txt (frameY kind load))] w fun e w' => e = .returned (.tuple #[.int .u8 (kind : Int), .string (txt load), .int .i64 0]) ∧ Below w.heap.size w w' := by
 obtain ⟨T, hT⟩ : ∃ T, [79, 71, 1] ++ [UInt8.ofNat kind] ++ natB load.length ++ load = T := ⟨_, rfl⟩
 have hF0 : frameY kind load = T ++ fourY (sumY T) := by rw [← hT]; rfl
 obtain ⟨y, hy⟩ : ∃ y, UInt8.ofNat kind = y := ⟨_, rfl⟩
 have HY : Hid ((y.toNat : Int) = kind) := by show _ = _; rw [← hy, byte_toNat hk]
 obtain ⟨sm, hsm⟩ : ∃ k, fourY (sumY T) = k := ⟨_, rfl⟩
 have HSM : Hid (fourY (sumY T) = sm ∧ sm.length = 4) := ⟨hsm, by rw [← hsm]; rfl⟩
 have HF : Hid (frameY kind load = [79, 71, 1] ++ ([y] ++ (natB load.length ++ (load ++ sm)))) := by
  show _ = _
  rw [hF0, hsm, ← hT, hy]
  simp
 have HTL : Hid (frameY kind load = T ++ sm ∧ T.length ≤ 1000000) := by
  refine ⟨by rw [hF0, hsm], ?_⟩
  have := natB_len (u := load.length) (by omega)
  rw [← hT]
  simp only [List.length_append, List.length_cons, List.length_nil]
  omega
 have HLL : Hid (load.length ≤ 262144) := hl
 obtain ⟨l, hl0⟩ : ∃ l, frameY kind load = l := ⟨_, rfl⟩
 rw [hl0] at HF HTL ⊢
 clear hF0 hT hy hsm hl hl0
 go_enter Tryz.func48, Tryz.ntmps48
 go_wp2_with fail
 refine (eon_any l w).mono ?_
 rintro e w1 ⟨rfl, hE, hb⟩
 obtain ⟨b, hbb⟩ : ∃ b, w.heap.size = b := ⟨_, rfl⟩
 have HBB := Lib.hid hbb
 rw [hbb] at hE ⊢
 have H1 : Hid (Eye w1 b ([79, 71, 1] ++ ([y] ++ (natB load.length ++ (load ++ sm))))) := by show Eye _ _ _; rw [← HF.out]; exact hE
 have HB1 : Hid (Below b w w1) := by show Below _ _ _; rw [← hbb]; exact hb
 clear hE hb hbb
 go_wp2_with fail
 refine (eraw_any b 3 _ w1 H1.out (by simp) (by have := natB_len (u := load.length) (by have := HLL.out; omega); have := HLL.out; have := HSM.out.2; simp only [List.length_append, List.length_cons, List.length_nil]; omega)).mono ?_
 rintro e w2 ⟨rfl, hW⟩
 have h3 : txt (([79, 71, 1] ++ ([y] ++ (natB load.length ++ (load ++ sm)))).take 3) = (⟨#[79, 71, 1]⟩ : ByteArray) := rfl
 have h4 : ([79, 71, 1] ++ ([y] ++ (natB load.length ++ (load ++ sm)))).drop 3 = [y] ++ (natB load.length ++ (load ++ sm)) := rfl
 rw [h4] at hW
 rw [h3]
 have H2 : Hid (Eye w2 b ([y] ++ (natB load.length ++ (load ++ sm)))) := by show Eye _ _ _; rw [← hW]; exact Eye.set H1.out _
 have HB2 : Hid (Below b w w2) := by show Below _ _ _; rw [← hW]; exact HB1.out.setCell (Nat.le_refl _) _
 clear hW h3 h4 H1 HB1
 go_wp2_with fail
 refine (eraw_any b 1 _ w2 H2.out (by simp) (by have := natB_len (u := load.length) (by have := HLL.out; omega); have := HLL.out; have := HSM.out.2; simp only [List.length_append, List.length_cons, List.length_nil]; omega)).mono ?_
 rintro e w3 ⟨rfl, hW⟩
 have h3 : ([y] ++ (natB load.length ++ (load ++ sm))).take 1 = [y] := rfl
 have h4 : ([y] ++ (natB load.length ++ (load ++ sm))).drop 1 = natB load.length ++ (load ++ sm) := rfl
 rw [h4] at hW
 rw [h3]
 have H3 : Hid (Eye w3 b (natB load.length ++ (load ++ sm))) := by show Eye _ _ _; rw [← hW]; exact Eye.set H2.out _
 have HB3 : Hid (Below b w w3) := by show Below _ _ _; rw [← hW]; exact HB2.out.setCell (Nat.le_refl _) _
 clear hW h3 h4 H2 HB2
 obtain ⟨ks, hks⟩ : ∃ s, txt [y] = s := ⟨_, rfl⟩
 have ksz : ks.size = 1 := by rw [← hks]; rfl
 have kget : ∀ h : 0 < ks.size, ks[0]'h = y := by subst hks; intro h; rfl
 have hyk := HY.out
 rw [hks]
 clear hks
 go_wp2_with fail
 refine (esmall_any b load.length 262144 (load ++ sm) w3 H3.out (by have := HLL.out; omega) (by omega) (by have := HLL.out; have := HSM.out.2; rw [List.length_append]; omega)).mono ?_
 rintro e w4 ⟨rfl, hE, hF⟩
 have H4 := Lib.hid hE
 have HB4 : Hid (Below b w w4) := hF.below HB3.out (Nat.le_of_lt (At.lt H3.out)) fun k hk => by simp only [List.mem_singleton] at hk; omega
 clear hE hF H3 HB3
 go_wp2_with fail
 refine (eraw_any b load.length (load ++ sm) w4 H4.out (by simp) (by have := HLL.out; have := HSM.out.2; rw [List.length_append]; omega)).mono ?_
 rintro e w5 ⟨rfl, hW⟩
 have h3 : (load ++ sm).take load.length = load := by simp
 have h4 : (load ++ sm).drop load.length = sm := by simp
 rw [h4] at hW
 rw [h3]
 have H5 : Hid (Eye w5 b sm) := by show Eye _ _ _; rw [← hW]; exact Eye.set H4.out _
 have HB5 : Hid (Below b w w5) := by show Below _ _ _; rw [← hW]; exact HB4.out.setCell (Nat.le_refl _) _
 clear hW h3 h4 H4 HB4
 go_wp2_with fail
 refine (eraw_any b 4 sm w5 H5.out (by have := HSM.out.2; omega) (by have := HSM.out.2; omega)).mono ?_
 rintro e w6 ⟨rfl, hW⟩
 have h3 : sm.take 4 = sm := List.take_of_length_le (by have := HSM.out.2; omega)
 have h4 : sm.drop 4 = [] := List.drop_eq_nil_of_le (by have := HSM.out.2; omega)
 rw [h4] at hW
 rw [h3]
 have H6 : Hid (Eye w6 b []) := by show Eye _ _ _; rw [← hW]; exact Eye.set H5.out _
 have HB6 : Hid (Below b w w6) := by show Below _ _ _; rw [← hW]; exact HB5.out.setCell (Nat.le_refl _) _
 clear hW h3 h4 H5 HB5
 go_wp2_with fail
 refine (eover_any b w6 H6.out).mono ?_
 rintro e w7 ⟨rfl, rfl⟩
 have hls : (txt l).size = l.length := txt_size l
 have hle : l.length = T.length + 4 := by rw [HTL.out.1, List.length_append, HSM.out.2]
 have hex : (txt l).extract 0 T.length = txt T := by rw [txt_extract, HTL.out.1]; simp
 obtain ⟨ls, hls0⟩ : ∃ s, txt l = s := ⟨_, rfl⟩
 obtain ⟨tn, htn⟩ : ∃ n, T.length = n := ⟨_, rfl⟩
 rw [hls0] at hls hex
 rw [htn] at hex hle
 rw [hle] at hls
 rw [hls0]
 have htl : tn ≤ 1000000 := by rw [← htn]; exact HTL.out.2
 clear hls0 htn hle
 go_wp2_with fail
 refine (fsum_any T w6 (by have := HTL.out.2; omega)).mono ?_
 rintro e w7 ⟨rfl, hb⟩
 have HB7 : Hid (Below b w w7) := HB6.out.trans (hb.mono (Nat.le_of_lt (At.lt H6.out)))
 clear hb HB6 hls hex
 go_wp2_with fail
 refine (ffour_any (sumY T) w7 (sumY_bd T)).mono ?_
 rintro e w8 ⟨rfl, hb⟩
 have HB8 : Hid (Below w.heap.size w w8) := by
  have h1 := HB7.out.size
  show Below _ _ _
  rw [HBB.out]
  have h2 : b ≤ w7.heap.size := by have := HBB.out; omega
  exact HB7.out.trans (hb.mono h2)
 clear hb HB7
 rw [HSM.out.1]
 obtain ⟨ss, hss⟩ : ∃ s, txt sm = s := ⟨_, rfl⟩
 obtain ⟨lo, hlo⟩ : ∃ s, txt load = s := ⟨_, rfl⟩
 have hsq : (ss.toList == ss.toList) = true := beq_self_eq_true ss.toList
 rw [hss, hlo]
 have HLO := Lib.hid hlo
 clear hss hlo
 go_wp2
 go_ret3
 exact ⟨by rw [HLO.out]; rfl, HB8.out⟩
end Go.Proofs.YtlbnlmhcpephbaaGreatDoor

namespace Go.Proofs.YtlbnlmhcpephbaaGreatDoor
open Go.RowKit
def headB (o : Option Int) (x : Int × Int) : List UInt8 := (match o with
 | none => natB (zigN x.1)
 | some p => natB (x.1 - p - 1).toNat) ++ natB x.2.toNat
def lastO (o : Option Int) (l : List (Int × Int)) : Option Int := match l.getLast? with
 | none => o
 | some y => some y.1
theorem pairsB_snoc (x : Int × Int) : ∀ (l : List (Int × Int)) (o : Option Int), pairsB o (l ++ [x]) = pairsB o l ++ headB (lastO o l) x
 | [], none => by simp [pairsB, headB, lastO]
 | [], some p => by simp [pairsB, headB, lastO]
 | y :: l, o => by
  have ih := pairsB_snoc x l (some y.1)
  have e : lastO (some y.1) l = lastO o (y :: l) := by
   cases l with
   | nil => rfl
   | cons z l => rfl
  rw [e] at ih
  cases o with
  | none => show natB _ ++ natB _ ++ pairsB (some y.1) (l ++ [x]) = _; rw [ih]; simp [pairsB]
  | some p => show natB _ ++ natB _ ++ pairsB (some y.1) (l ++ [x]) = _; rw [ih]; simp [pairsB]
theorem pairsB_zero {ps : List (Int × Int)} {x : Int × Int} (h : ps[0]? = some x) : pairsB none (ps.take 1) = pairsB none (ps.take 0) ++ (natB (zigN x.1) ++ natB x.2.toNat) := by
 obtain ⟨hk, e⟩ := List.getElem?_eq_some_iff.1 h
 rw [List.take_succ_eq_append_getElem hk, e, pairsB_snoc]
 rfl
theorem pairsB_succ {ps : List (Int × Int)} {k : Nat} {x y : Int × Int} (h : ps[k + 1]? = some x) (hy : ps[k]? = some y) : pairsB none (ps.take (k + 2)) = pairsB none (ps.take (k + 1)) ++ (natB (x.1 - y.1 - 1).toNat ++ natB x.2.toNat) := by
 obtain ⟨hk, e⟩ := List.getElem?_eq_some_iff.1 h
 obtain ⟨hk', e'⟩ := List.getElem?_eq_some_iff.1 hy
 rw [List.take_succ_eq_append_getElem hk, e, pairsB_snoc]
 have hl : lastO none (ps.take (k + 1)) = some y.1 := by
  unfold lastO
  rw [List.take_succ_eq_append_getElem hk', List.getLast?_append, e']
  rfl
 rw [hl]
 rfl
structure PutOk (ps : List (Int × Int)) : Prop where
 gd : Gd ps
 nn : ∀ x ∈ ps, 0 ≤ x.1 ∧ x.1 ≤ 9223372036854775807
 up : ∀ x ∈ ps, x.2 ≤ 9223372036854775807
theorem Gd.step {ps : List (Int × Int)} (h : Gd ps) {k : Nat} {x y : Int × Int} (hx : ps[k + 1]? = some x) (hy : ps[k]? = some y) : y.1 < x.1 := by
 obtain ⟨hk, rfl⟩ := List.getElem?_eq_some_iff.1 hx
 obtain ⟨hk', rfl⟩ := List.getElem?_eq_some_iff.1 hy
 exact List.pairwise_iff_getElem.1 h.srt k (k + 1) hk' hk (by omega)
theorem QuI.notin {w0 W : World} {b g len cap : Nat} {A0 A : Option Addr} {l : List UInt8} (h : QuI w0 W b A0 A len cap l) (hg : g < w0.heap.size) (hn : g ∉ b :: blk A0) : g ∉ b :: blk A := fun hm => by
 rcases List.mem_cons.1 hm with h1 | h1
 ·exact hn (by simp [h1])
 ·rcases h.bl g h1 with h2 | h2
  ·exact hn (by simp [h2])
  ·omega
theorem rdI_new (W : World) (x : Int) (g : Nat) (hg : g = W.heap.size) : RdI (W.alloc (.cells #[.int .i64 x] 2)) (some ⟨g, 0, none⟩) [x] := by
 subst hg
 intro j u hj
 have a := At.new W #[.int .i64 x] 2
 refine ⟨W.heap.size, 0, rfl, a.lt, ?_⟩
 have hl := (List.getElem?_eq_some_iff.1 hj).1
 simp at hl
 subst hl
 simp at hj; subst hj; exact a.cell rfl
def PutW (vb g o : Nat) (x y p : Int) (W : World) : Prop := At W vb #[.int .i64 x, .int .u64 y] 247 ∧ W.cell? ⟨g, o, none⟩ = some (.int .i64 p)
theorem PutW.far {vb g o : Nat} {x y p : Int} {W : World} (h : PutW vb g o x y p W) : At W vb #[.int .i64 x, .int .u64 y] 247 ∧ W.cell? ⟨g, o, none⟩ = some (.int .i64 p) := h
theorem pairsB_len : ∀ {l : List (Int × Int)} {o : Option Int}, (∀ x ∈ l, 0 ≤ x.1 ∧ x.1 ≤ 9223372036854775807) → (∀ x ∈ l, x.2 ≤ 9223372036854775807) → (∀ p, o = some p → 0 ≤ p) → (pairsB o l).length ≤ 20 * l.length
 | [], o, _, _, _ => by cases o <;> simp [pairsB]
 | x :: l, o, h, h2, ho => by
  have hx := h x (by simp)
  have hx2 := h2 x (by simp)
  have ih := pairsB_len (l := l) (o := some x.1) (fun y hy => h y (by simp [hy])) (fun y hy => h2 y (by simp [hy])) (fun p hp => by cases hp; exact hx.1)
  have a1 := natB_len (u := x.2.toNat) (by omega)
  cases o with
  | none =>
   have a2 := natB_len (zig_lt (x := x.1) (by omega) (by omega))
   show (natB _ ++ natB _ ++ pairsB (some x.1) l).length ≤ _
   rw [List.length_append, List.length_append, List.length_cons]; omega
  | some p =>
   have hp := ho p rfl
   have a2 := natB_len (u := (x.1 - p - 1).toNat) (by omega)
   show (natB _ ++ natB _ ++ pairsB (some x.1) l).length ≤ _
   rw [List.length_append, List.length_append, List.length_cons]; omega
theorem PutOk.len {ps : List (Int × Int)} (h : PutOk ps) (k : Nat) : (pairsB none (ps.take k)).length ≤ 20 * ps.length := by
 have h1 := pairsB_len (l := ps.take k) (o := none) (fun x hx => h.nn x (List.mem_of_mem_take hx)) (fun x hx => h.up x (List.mem_of_mem_take hx)) (fun p hp => by cases hp)
 rw [List.length_take] at h1
 omega
set_option maxRecDepth 100000 in
set_option maxHeartbeats 4000000 in
theorem rput_any (b : Nat) (A : Option Addr) (len cap : Nat) (l : List UInt8) (L : Option Addr) (n cL : Nat) (ps : List (Int × Int)) (w : World) (h : Qu w b A len cap l) (hn : ps.length = n) (hm : n ≤ 100000) (hlen : len ≤ 1000000) (hR : RdP w L ps) (hp : PutOk ps) (hL : 0 < n → ∀ g, L = some g → g.block ∉ b :: blk A) :
  Calls Tryz.prog 204 #[.pointer (some ⟨b, 0, none⟩), .slice L n cL] w fun e w' => e = .returned (.tuple #[]) ∧ ∃ A' len' cap', QuI w w' b A A' len' cap' (l ++ rowB ps) := by
 have HR := Lib.hid hR
 have HP := Lib.hid hp
 have HN := Lib.hid hn
 have HL := Lib.hid hL
 have HLL := Lib.hid h.len
 have HRN := Lib.hid (rdU_new w (n : Int))
 have HFR := Lib.hid (QuB.fresh h w.heap.size (Nat.le_refl _))
 have hbe : Below w.heap.size w (w.alloc (.cells #[.int .u64 (n : Int)] 23)) := (Below.refl _ _).alloc (Nat.le_refl _) _
 have H0 := Lib.hid ((QuI.start h).below hbe)
 clear hR hp hn h hL hbe
 go_enter Tryz.func204, Tryz.ntmps204
 go_wp2_with fail
 refine (qnat_any b A len cap l (some ⟨w.heap.size, 0, none⟩) 1 1 [n] _ H0.out.qu rfl (by omega) (by omega) HRN.out (fun u hu => by rw [List.mem_singleton] at hu; omega) HFR.out).mono ?_
 rintro e w1 ⟨rfl, A1, len1, cap1, hQ⟩
 have HS0 : Hid (QuI w w1 b A A1 len1 cap1 (l ++ natB n ++ pairsB none (ps.take 0))) := by
  have h3 := H0.out.trans hQ
  show QuI _ _ _ _ _ _ _ _
  simpa [natsB, pairsB] using h3
 clear hQ H0 HRN HFR
 go_wp2
 go_loopw [4, 5, 14] (fun _ _ i wr => ∃ k : Nat, k ≤ n ∧ i = .int .i64 k ∧ ∃ A2 len2 cap2, Hid (QuI w wr b A A2 len2 cap2 (l ++ natB n ++ pairsB none (ps.take k)))) (fun _ _ i _ => n - (intOf i).toNat)
 case atStart => exact ⟨0, by omega, rfl, A1, len1, cap1, HS0⟩
 case round =>
  obtain ⟨k, hk, rfl, A2, len2, cap2, H⟩ := hrel
  clear HS0
  by_cases hlt : k < n
  ·obtain ⟨⟨x, y⟩, hxy⟩ : ∃ x, ps[k]? = some x := ⟨_, List.getElem?_eq_getElem (by have := HN.out; omega)⟩
   have HX := Lib.hid (And.intro (HP.out.nn _ (List.mem_of_getElem? hxy)) (And.intro (HP.out.up _ (List.mem_of_getElem? hxy)) (HP.out.gd.pos _ (List.mem_of_getElem? hxy))))
   obtain ⟨yn, rfl⟩ : ∃ m : Nat, y = (m : Int) := ⟨y.toNat, by have := HX.out.2.2; dsimp only at this; omega⟩
   have HYB : Hid (yn < 18446744073709551616) := by have := HX.out.2.1; dsimp only at this; show _ < _; omega
   have HXY := Lib.hid hxy
   have HLK : Hid (len2 ≤ 4000000) := by
    have h1 := HP.out.len k
    have h2 := H.out.qu.len
    have h3 := natB_len (u := n) (by omega)
    rw [List.length_append, List.length_append] at h2
    have := HLL.out
    have := HN.out
    show _ ≤ _
    omega
   have hRw : RdP wr L ps := Frame.rd H.out.fr HR.out (HL.out (by omega))
   obtain ⟨g, o', rfl, hg, d1, d2⟩ := hRw.at k (by have := HN.out; omega)
   have HRW := Lib.hid hRw
   obtain ⟨hk', e⟩ := List.getElem?_eq_some_iff.1 hxy
   rw [e] at d1 d2
   dsimp only at d1 d2
   have hba : Below wr.heap.size wr (wr.alloc (.cells #[.int .i64 x, .int .u64 (yn : Int)] 247)) := (Below.refl _ _).alloc (Nat.le_refl _) _
   have aV := At.new wr #[.int .i64 x, .int .u64 (yn : Int)] 247
   have fV := aV.two
   have lV := aV.lt
   have HAV := Lib.hid aV
   have H3 := Lib.hid (H.out.below hba)
   have HGV : Hid (g < wr.heap.size) := hg
   have HGN : Hid (g ∉ b :: blk A2) := by
    obtain ⟨g', o'', e', hg', _⟩ := HR.out.at k (by have := HN.out; omega)
    have e2 : g = g' := by simp at e'; exact e'.1
    subst e2
    exact H.out.notin hg' (HL.out (by omega) _ rfl)
   have HVN : Hid (wr.heap.size ∉ b :: blk A2) := fun hm => QuB.fresh H.out.qu wr.heap.size (Nat.le_refl _) _ rfl hm
   clear hRw hxy hk' e hba hg H
   by_cases hk0 : k = 0
   ·have hkz : ((k : Int) == 0) = true := by subst hk0; rfl
    have HNX : Hid (pairsB none (ps.take (k + 1)) = pairsB none (ps.take k) ++ (intsB [x] ++ natB yn)) := by
     show _ = _
     subst hk0
     rw [pairsB_zero HXY.out]
     simp [intsB]
    have HHD : Hid ((intsB [x]).length ≤ 10) := by
     have h1 := intsB_len (l := [x]) fun u hu => by rw [List.mem_singleton] at hu; subst hu; have := HX.out.1; omega
     show _ ≤ _
     simpa using h1
    have hbe : Below (wr.alloc (.cells #[.int .i64 x, .int .u64 (yn : Int)] 247)).heap.size (wr.alloc (.cells #[.int .i64 x, .int .u64 (yn : Int)] 247)) ((wr.alloc (.cells #[.int .i64 x, .int .u64 (yn : Int)] 247)).alloc (.cells #[.int .i64 x] 2)) := (Below.refl _ _).alloc (Nat.le_refl _) _
    have H4 := Lib.hid (H3.out.below hbe)
    have HAV4 := Lib.hid (HAV.out.below hbe)
    have HRI := Lib.hid (rdI_new (wr.alloc (.cells #[.int .i64 x, .int .u64 (yn : Int)] 247)) x (wr.heap.size + 1) (by simp))
    have HFR' := Lib.hid (QuB.fresh H3.out.qu (wr.heap.size + 1) (by simp))
    clear hbe hk0
    go_wp2_with fail
    refine (qint_any b A2 len2 cap2 _ (some ⟨wr.heap.size + 1, 0, none⟩) 1 1 [x] _ H4.out.qu rfl (by omega) (by have := HLK.out; omega) HRI.out (fun u hu => by rw [List.mem_singleton] at hu; subst hu; have := HX.out.1; omega) HFR'.out).mono ?_
    rintro e w5 ⟨rfl, A3, len3, cap3, hQ⟩
    clear HRI HFR' fV lV d1 d2
    have H5 := Lib.hid (H4.out.trans hQ)
    have HA5 := Lib.hid (hQ.fr.at HAV4.out HVN.out)
    have f5 := HA5.out.two
    have l5 := HA5.out.lt
    have HL5 : Hid (len3 ≤ 5000000) := by
     have h1 := H5.out.qu.len
     have h2 := H4.out.qu.len
     have h3 := HHD.out
     rw [List.length_append, h2] at h1
     have := HLK.out
     show _ ≤ _
     omega
    have hbe : Below w5.heap.size w5 (w5.alloc (.cells #[.int .u64 (yn : Int)] 23)) := (Below.refl _ _).alloc (Nat.le_refl _) _
    have H6 := Lib.hid (H5.out.below hbe)
    have HRU := Lib.hid (rdU_new w5 (yn : Int))
    have HFR6 := Lib.hid (QuB.fresh H5.out.qu w5.heap.size (Nat.le_refl _))
    clear hQ H4 HAV4 H5 hbe
    go_wp2_with fail
    refine (qnat_any b A3 len3 cap3 _ (some ⟨w5.heap.size, 0, none⟩) 1 1 [yn] _ H6.out.qu rfl (by omega) (by have := HL5.out; omega) HRU.out (fun u hu => by rw [List.mem_singleton] at hu; subst hu; exact HYB.out) HFR6.out).mono ?_
    rintro e w7 ⟨rfl, A4, len4, cap4, hQ⟩
    have H7 : Hid (QuI w w7 b A A4 len4 cap4 (l ++ natB n ++ pairsB none (ps.take (k + 1)))) := by
     have h3 := H6.out.trans hQ
     show QuI _ _ _ _ _ _ _ _
     rw [HNX.out]
     simpa [natsB] using h3
    clear hQ H6 HRU HFR6 H3
    go_wp2
    exact ⟨⟨k + 1, by omega, by simp, A4, len4, cap4, H7⟩, by simp [intOf]; omega⟩
   ·have hkz : ((k : Int) == 0) = false := beq_eq_false_iff_ne.2 (by omega)
    obtain ⟨j, rfl⟩ : ∃ j, k = j + 1 := ⟨k - 1, by omega⟩
    obtain ⟨⟨p, py⟩, hpy⟩ : ∃ x, ps[j]? = some x := ⟨_, List.getElem?_eq_getElem (by have := HN.out; omega)⟩
    have HPB := Lib.hid (HP.out.nn _ (List.mem_of_getElem? hpy))
    have HLT := Lib.hid (HP.out.gd.step HXY.out hpy)
    obtain ⟨d, hd⟩ : ∃ d : Nat, x - p - 1 = (d : Int) := ⟨(x - p - 1).toNat, by have := HLT.out; dsimp only at this; omega⟩
    have HDD := Lib.hid hd
    have hpb : 0 ≤ p ∧ p ≤ 9223372036854775807 := by have := HPB.out; dsimp only at this; omega
    have hxb : 0 ≤ x ∧ x ≤ 9223372036854775807 := HX.out.1
    have hlt' : p < x := by have := HLT.out; dsimp only at this; exact this
    obtain ⟨_, _, e2, _, q1, _⟩ := RdP.at HRW.out j (by have := HN.out; omega)
    obtain ⟨rfl, rfl⟩ : g = _ ∧ o' = _ := by simpa using e2
    obtain ⟨hj', ej⟩ := List.getElem?_eq_some_iff.1 hpy
    rw [ej] at q1
    dsimp only at q1
    have HNX : Hid (pairsB none (ps.take (j + 1 + 1)) = pairsB none (ps.take (j + 1)) ++ (natsB [d] ++ natB yn)) := by
     show _ = _
     rw [pairsB_succ HXY.out hpy]
     dsimp only
     rw [show (x - p - 1).toNat = d by have := HDD.out; omega]
     simp [natsB]
    have HDB : Hid (d < 18446744073709551616) := by have := HX.out.1; have := HPB.out; dsimp only at *; show _ < _; omega
    have HHD : Hid ((natsB [d]).length ≤ 10) := by
     have h1 := natsB_len (l := [d]) fun u hu => by rw [List.mem_singleton] at hu; subst hu; exact HDB.out
     show _ ≤ _
     simpa using h1
    have HQ1 : Hid (PutW wr.heap.size g (o' + j * 2) x (yn : Int) p (wr.alloc (.cells #[.int .i64 x, .int .u64 (yn : Int)] 247))) := ⟨HAV.out, cellB ((Below.refl _ _).alloc (Nat.le_refl _) _) HGV.out q1⟩
    clear hd q1 ej hj' hpy e2 HRW
    go_wp2_with fail
    clear d1 d2 fV lV
    obtain ⟨vb, hvb⟩ : ∃ r, wr.heap.size = r := ⟨_, rfl⟩
    obtain ⟨W3, hW3⟩ : ∃ W, wr.alloc (.cells #[.int .i64 x, .int .u64 (yn : Int)] 247) = W := ⟨_, rfl⟩
    have HVV : Hid (vb < W3.heap.size) := by show _ < _; rw [← hW3, ← hvb]; exact HAV.out.lt
    rw [hW3] at HAV H3 HQ1
    rw [hvb] at HAV HGV HVN HQ1
    simp only [hW3, hvb]
    have HVB : Hid (vb = wr.heap.size) := hvb.symm
    clear hvb hW3
    have hbd : Below W3.heap.size W3 W3.drew := (Below.refl _ _).drew
    obtain ⟨W4, hW4⟩ : ∃ W, W3.drew = W := ⟨_, rfl⟩
    rw [hW4] at hbd
    have hK4 : PutW vb g (o' + j * 2) x (yn : Int) p W4 := ⟨HQ1.out.1.below hbd, cellB hbd (Nat.lt_trans HGV.out HVV.out) HQ1.out.2⟩
    have H34 := Lib.hid (H3.out.below hbd)
    haveI hne : Nonempty (Held (PutW vb g (o' + j * 2) x (yn : Int) p)) := ⟨⟨W4, hK4⟩⟩
    have hfar1 := fun v : Held (PutW vb g (o' + j * 2) x (yn : Int) p) => v.held.far.1.two
    have hfar2 := fun v : Held (PutW vb g (o' + j * 2) x (yn : Int) p) => v.held.far.2
    refine wp_region_noPanic ?_
    refine wp_region_held_drew (S := HeldS (PutW vb g (o' + j * 2) x (yn : Int) p)) (by kernel_rfl) (by rw [hW4]; exact HeldS.mk' hK4) (fun hHeld => ?_)
    rw [hW4] at hHeld ⊢
    have HK4 := Lib.hid hK4
    clear hW4 hK4 hbd
    refine wpAnyH_run0 [true, true, true, true, true, true, true, true, true, true, true, true, true] 2 (by kernel_rfl) (by kernel_rfl) (fun _ _ _ _ h => h) (by kernel_rfl) hHeld ?_
    simp only [runOps_true, runOps_false, runOps_nil]
    repeat (first | go_big_quiet_skip | (go_big_quiet_want; go_big_quiet_op; go_big_quiet_on))
    refine wpQuiet_nil ?_
    clear hfar1 hfar2
    rw [HDD.out]
    have hba : Below W4.heap.size W4 (W4.alloc (.cells #[.int .u64 (d : Int)] 23)) := (Below.refl _ _).alloc (Nat.le_refl _) _
    have hK5 : PutW vb g (o' + j * 2) x (yn : Int) p (W4.alloc (.cells #[.int .u64 (d : Int)] 23)) := ⟨HK4.out.1.below hba, cellB hba (Nat.lt_trans HGV.out HK4.out.1.lt) HK4.out.2⟩
    have HK5 := Lib.hid hK5
    have H4 := Lib.hid (H34.out.below hba)
    have HAV4 := Lib.hid hK5.1
    have HRU := Lib.hid (rdU_new W4 (d : Int))
    have HFR := Lib.hid (QuB.fresh H34.out.qu W4.heap.size (Nat.le_refl _))
    clear hba
    refine wpAnyH_ready (rs := [13]) (by kernel_rfl) (by simp) ?_
    refine AllReadyH.cons rfl (fun K hK => ?_) (AllReadyH.nil)
    go_simp
    go_wp2
    refine hK.out _ _ (HeldS.mk' hK5) (fun hHeld => ?_)
    clear hK K hK5
    refine wpAnyH_ready (rs := [14]) (by kernel_rfl) (by simp) ?_
    refine AllReadyH.cons rfl (fun K hK => ?_) AllReadyH.nil
    go_simp
    go_wp2_with (go_at_call 96; refine (qnat_any b A2 len2 cap2 _ (some ⟨W4.heap.size, 0, none⟩) 1 1 [d] _ H4.out.qu rfl (by omega) (by have := HLK.out; omega) HRU.out (fun u hu => by rw [List.mem_singleton] at hu; subst hu; exact HDB.out) HFR.out).mono ?_; rintro e w5 ⟨rfl, A3, len3, cap3, hQ⟩)
    refine hK.out _ _ ?_ (fun hHeld => ?_)
    clear hK K
    ·exact HeldS.mk' ⟨hQ.fr.at HK5.out.1 HVN.out, (World.cell?_of_block (hQ.fr.block g (Nat.lt_trans HGV.out HK5.out.1.lt) HGN.out)).trans HK5.out.2⟩
    refine wpAnyH_done (by kernel_rfl) ?_ _
    refine NoPanic.normal ?_
    clear hne hHeld HRU HFR HK5 HK4 H34
    have H5 := Lib.hid (H4.out.trans hQ)
    have HA5 := Lib.hid (hQ.fr.at HAV4.out HVN.out)
    have f5 := HA5.out.two
    have l5 := HA5.out.lt
    have HL5 : Hid (len3 ≤ 5000000) := by
     have h1 := H5.out.qu.len
     have h2 := H4.out.qu.len
     have h3 := HHD.out
     rw [List.length_append, h2] at h1
     have := HLK.out
     show _ ≤ _
     omega
    have hbe : Below w5.heap.size w5 (w5.alloc (.cells #[.int .u64 (yn : Int)] 23)) := (Below.refl _ _).alloc (Nat.le_refl _) _
    have H6 := Lib.hid (H5.out.below hbe)
    have HRU := Lib.hid (rdU_new w5 (yn : Int))
    have HFR6 := Lib.hid (QuB.fresh H5.out.qu w5.heap.size (Nat.le_refl _))
    clear hQ H4 HAV4 H5 hbe
    go_wp2_with fail
    refine (qnat_any b A3 len3 cap3 _ (some ⟨w5.heap.size, 0, none⟩) 1 1 [yn] _ H6.out.qu rfl (by omega) (by have := HL5.out; omega) HRU.out (fun u hu => by rw [List.mem_singleton] at hu; subst hu; exact HYB.out) HFR6.out).mono ?_
    rintro e w7 ⟨rfl, A4, len4, cap4, hQ⟩
    have H7 : Hid (QuI w w7 b A A4 len4 cap4 (l ++ natB n ++ pairsB none (ps.take (j + 1 + 1)))) := by
     have h3 := H6.out.trans hQ
     show QuI _ _ _ _ _ _ _ _
     rw [HNX.out]
     simpa [natsB] using h3
    clear hQ H6 HRU HFR6 H3
    go_wp2
    exact ⟨⟨j + 1 + 1, by omega, by simp, A4, len4, cap4, H7⟩, by simp [intOf]; omega⟩
  ·obtain rfl : k = n := by omega
   have HT : Hid (l ++ natB k ++ pairsB none (ps.take k) = l ++ rowB ps) := by
    show _ = _
    rw [List.take_of_length_le (by have := HN.out; omega)]
    simp [rowB, HN.out]
   rw [HT.out] at H
   go_wp2
   exact bodyPost_end (results_none rfl _ _ _) rfl ⟨rfl, A2, len2, cap2, H.out⟩
end Go.Proofs.YtlbnlmhcpephbaaGreatDoor

namespace Go.Proofs.YtlbnlmhcpephbaaGreatDoor
open Go.RowKit
theorem Frame.low {S : List Nat} {w W W' : World} (h : Frame S w W) (hb : Below w.heap.size W W') : Frame S w W' :=
 ⟨hb.os.trans h.os, hb.tape.trans h.tape, hb.output.trans h.output, Nat.le_trans h.size hb.size, fun k hk hn => (hb.block k hk).trans (h.block k hk hn)⟩
structure GetJ (w W : World) (b : Nat) (A : Option Addr) (cap : Nat) (ps : List (Int × Int)) (left : List UInt8) : Prop where
 own : Own2 w.heap.size W A cap ps
 eye : Eye W b left
 fr : Frame [b] w W
 lt : b < w.heap.size
section
variable {w W W' : World} {b vb cap cap' : Nat} {A A' : Option Addr} {ps ps' : List (Int × Int)} {l l' : List UInt8}
theorem GetJ.sz (h : GetJ w W b A cap ps l) : w.heap.size ≤ W.heap.size := h.fr.size
theorem GetJ.blk (h : GetJ w W b A cap ps l) : ∀ k ∈ blk A, w.heap.size ≤ k ∧ k < W.heap.size := by
 intro k hk
 cases A with
 | none => simp [Go.Proofs.YtlbnlmhcpephbaaGreatDoor.blk] at hk
 | some a => simp only [Go.Proofs.YtlbnlmhcpephbaaGreatDoor.blk, List.mem_singleton] at hk; subst hk; exact h.own.base_le a rfl
theorem GetJ.below (h : GetJ w W b A cap ps l) (hb : Below W.heap.size W W') : GetJ w W' b A cap ps l := ⟨h.own.below hb, h.eye.below hb, h.fr.trans (Frame.of_below hb), h.lt⟩
theorem GetJ.read (h : GetJ w W b A cap ps l) (hE : Eye W' b l') (hF : Frame [b] W W') : GetJ w W' b A cap ps l' :=
 ⟨h.own.frame hF fun k hk hm => by simp only [List.mem_singleton] at hm; have := (h.blk k hk).1; have := h.lt; omega, hE, h.fr.trans hF, h.lt⟩
theorem GetJ.at (h : GetJ w W b A cap ps l) (hF : Frame [vb] W W') (hv : w.heap.size ≤ vb) (hn : vb ∉ Go.Proofs.YtlbnlmhcpephbaaGreatDoor.blk A) : GetJ w W' b A cap ps l :=
 ⟨h.own.frame hF fun k hk hm => by simp only [List.mem_singleton] at hm; subst hm; exact hn hk, h.eye.frame hF (by have := h.lt; simp only [List.mem_singleton]; omega),
  ⟨hF.os.trans h.fr.os, hF.tape.trans h.fr.tape, hF.output.trans h.fr.output, Nat.le_trans h.fr.size hF.size, fun k hk hn => (hF.block k (Nat.lt_of_lt_of_le hk h.fr.size) (by simp only [List.mem_singleton]; omega)).trans (h.fr.block k hk hn)⟩, h.lt⟩
theorem GetJ.app (h : GetJ w W b A cap ps l) (ho : Own2 w.heap.size W' A' cap' ps') (hb : Below w.heap.size W W') : GetJ w W' b A' cap' ps' l := ⟨ho, At.of_below h.eye hb h.lt, h.fr.low hb, h.lt⟩
end
theorem lastO_succ {ps : List (Int × Int)} {k : Nat} {y : Int × Int} (hy : ps[k]? = some y) : lastO none (ps.take (k + 1)) = some y.1 := by
 obtain ⟨hk', e'⟩ := List.getElem?_eq_some_iff.1 hy
 unfold lastO
 rw [List.take_succ_eq_append_getElem hk', List.getLast?_append, e']
 rfl
theorem drop_at {ps : List (Int × Int)} {k : Nat} {x : Int × Int} (h : ps[k]? = some x) : ps.drop k = x :: ps.drop (k + 1) := by
 obtain ⟨hk, e⟩ := List.getElem?_eq_some_iff.1 h
 rw [List.drop_eq_getElem_cons hk, e]
set_option maxRecDepth 100000 in
set_option maxHeartbeats 4000000 in
theorem rget_any (b : Nat) (most : Int) (ps : List (Int × Int)) (rest : List UInt8) (w : World) (h : Eye w b (rowB ps ++ rest)) (hp : PutOk ps) (hm : (ps.length : Int) ≤ most) (hm' : most ≤ 4096) (hl : rest.length ≤ 1000000) :
  Calls Tryz.prog 83 #[.pointer (some ⟨b, 0, none⟩), .int .i64 most] w fun e w' => ∃ A cap, e = .returned (.slice A ps.length cap) ∧ RdP w' A ps ∧ Eye w' b rest ∧ Frame [b] w w' := by
 have HP := Lib.hid hp
 obtain ⟨n, hn⟩ : ∃ n, ps.length = n := ⟨_, rfl⟩
 have HN := Lib.hid hn
 rw [hn] at hm ⊢
 have h0 : Eye w b (natB n ++ (pairsB none ps ++ rest)) := by
  have := h
  unfold rowB at this
  rw [hn, List.append_assoc] at this
  exact this
 have HLT : Hid (b < w.heap.size) := At.lt h
 have HPL : Hid (∀ o k, (∀ p, o = some p → 0 ≤ p) → (pairsB o (ps.drop k)).length ≤ 100000) := fun o k ho => by
  have h1 := pairsB_len (l := ps.drop k) (o := o) (fun x hx => hp.nn x (List.mem_of_mem_drop hx)) (fun x hx => hp.up x (List.mem_of_mem_drop hx)) ho
  rw [List.length_drop] at h1
  omega
 have hl0 : (pairsB none ps ++ rest).length ≤ 100000000 := by
  have := HPL.out none 0 (fun p hp => by cases hp)
  rw [List.drop_zero] at this
  rw [List.length_append]; omega
 have HS := Lib.hid (esmall_any b n most (pairsB none ps ++ rest) w h0 hm (by omega) hl0)
 have hn4 : n ≤ 4096 := by omega
 clear hp hn h h0 hl0
 go_enter Tryz.func83, Tryz.ntmps83
 go_wp2_with fail
 refine HS.out.mono ?_
 rintro e w1 ⟨rfl, hE, hF⟩
 have H0 : Hid (GetJ w w1 b none 0 (ps.take 0) (pairsB (lastO none (ps.take 0)) (ps.drop 0) ++ rest)) := ⟨Own2.nil _ _, hE, hF, HLT.out⟩
 clear hE hF HS
 go_wp2
 go_loopw [5, 6, 7, 8, 12] (fun out _ _ _ i wr => ∃ k : Nat, k ≤ n ∧ i = .int .i64 k ∧ ∃ A cap, out = .slice A k cap ∧ Hid (GetJ w wr b A cap (ps.take k) (pairsB (lastO none (ps.take k)) (ps.drop k) ++ rest))) (fun _ _ _ _ i _ => n - (intOf i).toNat)
 case atStart => exact ⟨0, by omega, rfl, none, 0, rfl, H0⟩
 case round =>
  obtain ⟨k, hk, rfl, A, cap, rfl, H⟩ := hrel
  clear H0
  by_cases hlt : k < n
  ·obtain ⟨⟨x, y⟩, hxy⟩ : ∃ x, ps[k]? = some x := ⟨_, List.getElem?_eq_getElem (by have := HN.out; omega)⟩
   have HX := Lib.hid (And.intro (HP.out.nn _ (List.mem_of_getElem? hxy)) (And.intro (HP.out.up _ (List.mem_of_getElem? hxy)) (HP.out.gd.pos _ (List.mem_of_getElem? hxy))))
   obtain ⟨yn, rfl⟩ : ∃ m : Nat, y = (m : Int) := ⟨y.toNat, by have := HX.out.2.2; dsimp only at this; omega⟩
   have HYB : Hid (0 < yn ∧ yn ≤ 9223372036854775807) := by have h1 := HX.out.2; dsimp only at h1; show _ ∧ _; omega
   have hxb : 0 ≤ x ∧ x ≤ 9223372036854775807 := HX.out.1
   have HTL : Hid ((ps.take k).length = k) := by show _ = _; rw [List.length_take]; have := HN.out; omega
   have HTK : Hid (ps.take (k + 1) = ps.take k ++ [(x, (yn : Int))]) := by
    obtain ⟨hk', e⟩ := List.getElem?_eq_some_iff.1 hxy
    show _ = _
    rw [List.take_succ_eq_append_getElem hk', e]
   have HRL : Hid ((pairsB (lastO none (ps.take (k + 1))) (ps.drop (k + 1)) ++ rest).length ≤ 2000000) := by
    have h1 := HPL.out (lastO none (ps.take (k + 1))) (k + 1) (fun p hp => by rw [lastO_succ hxy] at hp; simp only [Option.some.injEq] at hp; omega)
    show _ ≤ _
    rw [List.length_append]; omega
   have hba : Below wr.heap.size wr (wr.alloc (.cells #[.int .i64 0, .int .u64 0] 247)) := (Below.refl _ _).alloc (Nat.le_refl _) _
   have aV := At.new wr #[.int .i64 0, .int .u64 0] 247
   have H1 := Lib.hid (H.out.below hba)
   have HV1 := Lib.hid aV
   by_cases hk0 : k = 0
   ·have hkz : ((k : Int) == 0) = true := by subst hk0; rfl
    have HL : Hid (pairsB (lastO none (ps.take k)) (ps.drop k) ++ rest = natB (zigN x) ++ (natB yn ++ (pairsB (lastO none (ps.take (k + 1))) (ps.drop (k + 1)) ++ rest))) := by
     show _ = _
     rw [lastO_succ hxy, drop_at hxy]
     subst hk0
     show pairsB none _ ++ _ = _
     simp [pairsB]
    have HE1 : Hid (Eye (wr.alloc (.cells #[.int .i64 0, .int .u64 0] 247)) b (natB (zigN x) ++ (natB yn ++ (pairsB (lastO none (ps.take (k + 1))) (ps.drop (k + 1)) ++ rest)))) := by show Eye _ _ _; rw [← HL.out]; exact H1.out.eye
    clear hba aV hk0 hxy
    go_wp2_with fail
    obtain ⟨vb, hvb⟩ : ∃ r, wr.heap.size = r := ⟨_, rfl⟩
    obtain ⟨W1, hW1⟩ : ∃ W, wr.alloc (.cells #[.int .i64 0, .int .u64 0] 247) = W := ⟨_, rfl⟩
    have HVB : Hid (w.heap.size ≤ vb ∧ vb ∉ blk A) := ⟨by rw [← hvb]; exact H.out.sz, fun hm => by have := (H.out.blk vb hm).2; omega⟩
    have HVN : Hid (vb ≠ b) := fun e => by have := H.out.lt; have := H.out.sz; omega
    rw [hW1] at H1 HV1 HE1
    rw [hvb] at HV1
    simp only [hW1, hvb]
    clear hW1 hvb H
    refine (eint_any b x _ W1 HE1.out (by omega) (by omega) (by have h1 := HRL.out; have h2 := natB_len (u := yn) (by have := HYB.out; omega); rw [List.length_append]; omega)).mono ?_
    rintro e w2 ⟨rfl, hE, hF⟩
    have H2 : Hid (GetJ w w2 b A cap (ps.take k) (natB yn ++ (pairsB (lastO none (ps.take (k + 1))) (ps.drop (k + 1)) ++ rest))) := H1.out.read hE hF
    have HV2 : Hid (At w2 vb #[.int .i64 0, .int .u64 0] 247) := hF.at HV1.out (by simp only [List.mem_singleton]; exact HVN.out)
    have f2 := HV2.out.two
    have l2 := HV2.out.lt
    clear H1 HV1 HE1 HL
    clear hE hF
    go_wp2_with fail
    have a3 := HV2.out.set_any 0 (.int .i64 x) rfl
    obtain ⟨W3, hW3⟩ : ∃ W, w2.setCell ⟨vb, 0, none⟩ (.int .i64 x) = W := ⟨_, rfl⟩
    have hS3 : Frame [vb] w2 W3 := by rw [← hW3]; exact Frame.set [vb] w2 vb 0 _ (by simp)
    rw [hW3] at a3 ⊢
    have H3 : Hid (GetJ w W3 b A cap (ps.take k) (natB yn ++ (pairsB (lastO none (ps.take (k + 1))) (ps.drop (k + 1)) ++ rest))) := H2.out.at hS3 HVB.out.1 HVB.out.2
    have HV3 : Hid (At W3 vb #[.int .i64 x, .int .u64 0] 247) := a3
    clear hW3 a3 hS3 H2 HV2
    refine (ecount_any b yn _ W3 H3.out.eye HYB.out.1 HYB.out.2 (by have := HRL.out; omega)).mono ?_
    rintro e w4 ⟨rfl, hE, hF⟩
    have H4 : Hid (GetJ w w4 b A cap (ps.take k) (pairsB (lastO none (ps.take (k + 1))) (ps.drop (k + 1)) ++ rest)) := H3.out.read hE hF
    have HV4 : Hid (At w4 vb #[.int .i64 x, .int .u64 0] 247) := hF.at HV3.out (by simp only [List.mem_singleton]; exact HVN.out)
    have f4 := HV4.out.two
    have l4 := HV4.out.lt
    clear hE hF H3 HV3
    go_wp2_with fail
    have a5 := HV4.out.set_any 1 (.int .u64 (yn : Int)) rfl
    obtain ⟨W5, hW5⟩ : ∃ W, w4.setCell ⟨vb, 1, none⟩ (.int .u64 (yn : Int)) = W := ⟨_, rfl⟩
    have hS5 : Frame [vb] w4 W5 := by rw [← hW5]; exact Frame.set [vb] w4 vb 1 _ (by simp)
    rw [hW5] at a5 ⊢
    have H5 : Hid (GetJ w W5 b A cap (ps.take k) (pairsB (lastO none (ps.take (k + 1))) (ps.drop (k + 1)) ++ rest)) := H4.out.at hS5 HVB.out.1 HVB.out.2
    have HV5 : Hid (At W5 vb #[.int .i64 x, .int .u64 (yn : Int)] 247) := a5
    clear hW5 a5 hS5 H4 HV4 f4 l4
    refine (ebad_any b _ W5 H5.out.eye).mono ?_
    rintro e w6 ⟨rfl, rfl⟩
    have f5 := HV5.out.two
    have l5 := HV5.out.lt
    have hba : Below W5.heap.size W5 (W5.alloc (.cells #[.int .i64 x, .int .u64 (yn : Int)] 247)) := (Below.refl _ _).alloc (Nat.le_refl _) _
    have H6 := Lib.hid (H5.out.below hba)
    have HN0 := Lib.hid (new_two0 (w := W5) (u0 := .int .i64 x) (u1 := .int .u64 (yn : Int)) (T := 247) rfl)
    have HN1 := Lib.hid (new_two1 (w := W5) (u0 := .int .i64 x) (u1 := .int .u64 (yn : Int)) (T := 247) rfl)
    clear hba H5
    go_wp2_with (first | (at_builtin; refine wpList_append_pair rfl _ _ rfl w.heap.size A cap k (ps.take k) rfl HTL.out H6.out.own ⟨W5.heap.size, 0, none⟩ 1 (x, (yn : Int)) rfl HN0.out HN1.out (by omega) _ (Below.refl _ _) H6.out.sz ?_; intro A' cap' w7 HO hb7) | fail)
    have H7 : Hid (GetJ w w7 b A' cap' (ps.take (k + 1)) (pairsB (lastO none (ps.take (k + 1))) (ps.drop (k + 1)) ++ rest)) := by
     have h1 := HO.out
     rw [← HTK.out] at h1
     exact H6.out.app h1 hb7
    clear HO hb7 H6 HN0 HN1
    go_wp2
    exact ⟨⟨k + 1, by omega, by simp, A', cap', rfl, H7⟩, by simp [intOf]; omega⟩
   ·have hkz : ((k : Int) == 0) = false := beq_eq_false_iff_ne.2 (by omega)
    obtain ⟨j, rfl⟩ : ∃ j, k = j + 1 := ⟨k - 1, by omega⟩
    obtain ⟨⟨p, py⟩, hpy⟩ : ∃ x, ps[j]? = some x := ⟨_, List.getElem?_eq_getElem (by have := HN.out; omega)⟩
    have HPB := Lib.hid (HP.out.nn _ (List.mem_of_getElem? hpy))
    have hlt' : p < x := by have := HP.out.gd.step hxy hpy; dsimp only at this; exact this
    have hpb : 0 ≤ p ∧ p ≤ 9223372036854775807 := by have := HPB.out; dsimp only at this; omega
    obtain ⟨d, hd⟩ : ∃ d : Nat, x - p - 1 = (d : Int) := ⟨(x - p - 1).toNat, by omega⟩
    have hsum : p + (d : Int) + 1 = x := by omega
    have hpm : (p == 9223372036854775807) = false := beq_eq_false_iff_ne.2 (by omega)
    obtain ⟨q, hq⟩ : ∃ q, 9223372036854775806 - p = q := ⟨_, rfl⟩
    have HQ : Hid ((d : Int) ≤ q ∧ d < 18446744073709551616) := by show _ ∧ _; omega
    have HL : Hid (pairsB (lastO none (ps.take (j + 1))) (ps.drop (j + 1)) ++ rest = natB d ++ (natB yn ++ (pairsB (lastO none (ps.take (j + 1 + 1))) (ps.drop (j + 1 + 1)) ++ rest))) := by
     show _ = _
     rw [lastO_succ hxy, lastO_succ hpy, drop_at hxy]
     show natB (x - p - 1).toNat ++ natB (yn : Int).toNat ++ _ ++ _ = _
     rw [show (x - p - 1).toNat = d by omega]
     simp
    have HE1 : Hid (Eye (wr.alloc (.cells #[.int .i64 0, .int .u64 0] 247)) b (natB d ++ (natB yn ++ (pairsB (lastO none (ps.take (j + 1 + 1))) (ps.drop (j + 1 + 1)) ++ rest)))) := by show Eye _ _ _; rw [← HL.out]; exact H1.out.eye
    obtain ⟨g, o', rfl, hg, d1, _⟩ := (H1.out.own.rd).at j (by rw [HTL.out]; omega)
    have ej : ((ps.take (j + 1))[j]'(by rw [HTL.out]; omega)).1 = p := by
     obtain ⟨hj', e⟩ := List.getElem?_eq_some_iff.1 hpy
     rw [List.getElem_take, e]
    rw [ej] at d1
    clear hba aV hk0 hxy hpy hd ej hlt'
    go_wp2_with fail
    clear d1 hg hpm
    obtain ⟨vb, hvb⟩ : ∃ r, wr.heap.size = r := ⟨_, rfl⟩
    obtain ⟨W1, hW1⟩ : ∃ W, wr.alloc (.cells #[.int .i64 0, .int .u64 0] 247) = W := ⟨_, rfl⟩
    have HVB : Hid (w.heap.size ≤ vb ∧ vb ∉ blk (some (⟨g, o', none⟩ : Addr))) := ⟨by rw [← hvb]; exact H.out.sz, fun hm => by have := (H.out.blk vb hm).2; omega⟩
    have HVN : Hid (vb ≠ b) := fun e => by have := H.out.lt; have := H.out.sz; omega
    rw [hW1] at H1 HV1 HE1
    rw [hvb] at HV1
    simp only [hW1, hvb]
    clear hW1 hvb H
    refine (enat_any b d q _ W1 HE1.out HQ.out.2 HQ.out.1 (by have h1 := HRL.out; have h2 := natB_len (u := yn) (by have := HYB.out; omega); rw [List.length_append]; omega)).mono ?_
    rintro e w2 ⟨rfl, hE, hF⟩
    have H2 : Hid (GetJ w w2 b (some ⟨g, o', none⟩) cap (ps.take (j + 1)) (natB yn ++ (pairsB (lastO none (ps.take (j + 1 + 1))) (ps.drop (j + 1 + 1)) ++ rest))) := H1.out.read hE hF
    have HV2 : Hid (At w2 vb #[.int .i64 0, .int .u64 0] 247) := hF.at HV1.out (by simp only [List.mem_singleton]; exact HVN.out)
    have f2 := HV2.out.two
    have l2 := HV2.out.lt
    clear H1 HV1 HE1 HL
    clear hE hF
    go_wp2_with fail
    have a3 := HV2.out.set_any 0 (.int .i64 x) rfl
    obtain ⟨W3, hW3⟩ : ∃ W, w2.setCell ⟨vb, 0, none⟩ (.int .i64 x) = W := ⟨_, rfl⟩
    have hS3 : Frame [vb] w2 W3 := by rw [← hW3]; exact Frame.set [vb] w2 vb 0 _ (by simp)
    rw [hW3] at a3 ⊢
    have H3 : Hid (GetJ w W3 b (some ⟨g, o', none⟩) cap (ps.take (j + 1)) (natB yn ++ (pairsB (lastO none (ps.take (j + 1 + 1))) (ps.drop (j + 1 + 1)) ++ rest))) := H2.out.at hS3 HVB.out.1 HVB.out.2
    have HV3 : Hid (At W3 vb #[.int .i64 x, .int .u64 0] 247) := a3
    clear hW3 a3 hS3 H2 HV2
    refine (ecount_any b yn _ W3 H3.out.eye HYB.out.1 HYB.out.2 (by have := HRL.out; omega)).mono ?_
    rintro e w4 ⟨rfl, hE, hF⟩
    have H4 : Hid (GetJ w w4 b (some ⟨g, o', none⟩) cap (ps.take (j + 1)) (pairsB (lastO none (ps.take (j + 1 + 1))) (ps.drop (j + 1 + 1)) ++ rest)) := H3.out.read hE hF
    have HV4 : Hid (At w4 vb #[.int .i64 x, .int .u64 0] 247) := hF.at HV3.out (by simp only [List.mem_singleton]; exact HVN.out)
    have f4 := HV4.out.two
    have l4 := HV4.out.lt
    clear hE hF H3 HV3
    go_wp2_with fail
    have a5 := HV4.out.set_any 1 (.int .u64 (yn : Int)) rfl
    obtain ⟨W5, hW5⟩ : ∃ W, w4.setCell ⟨vb, 1, none⟩ (.int .u64 (yn : Int)) = W := ⟨_, rfl⟩
    have hS5 : Frame [vb] w4 W5 := by rw [← hW5]; exact Frame.set [vb] w4 vb 1 _ (by simp)
    rw [hW5] at a5 ⊢
    have H5 : Hid (GetJ w W5 b (some ⟨g, o', none⟩) cap (ps.take (j + 1)) (pairsB (lastO none (ps.take (j + 1 + 1))) (ps.drop (j + 1 + 1)) ++ rest)) := H4.out.at hS5 HVB.out.1 HVB.out.2
    have HV5 : Hid (At W5 vb #[.int .i64 x, .int .u64 (yn : Int)] 247) := a5
    clear hW5 a5 hS5 H4 HV4 f4 l4
    refine (ebad_any b _ W5 H5.out.eye).mono ?_
    rintro e w6 ⟨rfl, rfl⟩
    have f5 := HV5.out.two
    have l5 := HV5.out.lt
    have hba : Below W5.heap.size W5 (W5.alloc (.cells #[.int .i64 x, .int .u64 (yn : Int)] 247)) := (Below.refl _ _).alloc (Nat.le_refl _) _
    have H6 := Lib.hid (H5.out.below hba)
    have HN0 := Lib.hid (new_two0 (w := W5) (u0 := .int .i64 x) (u1 := .int .u64 (yn : Int)) (T := 247) rfl)
    have HN1 := Lib.hid (new_two1 (w := W5) (u0 := .int .i64 x) (u1 := .int .u64 (yn : Int)) (T := 247) rfl)
    clear hba H5
    go_wp2_with (first | (at_builtin; refine wpList_append_pair rfl _ _ rfl w.heap.size (some ⟨g, o', none⟩) cap (j + 1) (ps.take (j + 1)) rfl HTL.out H6.out.own ⟨W5.heap.size, 0, none⟩ 1 (x, (yn : Int)) rfl HN0.out HN1.out (by omega) _ (Below.refl _ _) H6.out.sz ?_; intro A' cap' w7 HO hb7) | fail)
    have H7 : Hid (GetJ w w7 b A' cap' (ps.take (j + 1 + 1)) (pairsB (lastO none (ps.take (j + 1 + 1))) (ps.drop (j + 1 + 1)) ++ rest)) := by
     have h1 := HO.out
     rw [← HTK.out] at h1
     exact H6.out.app h1 hb7
    clear HO hb7 H6 HN0 HN1
    go_wp2
    exact ⟨⟨j + 1 + 1, by omega, by simp, A', cap', rfl, H7⟩, by simp [intOf]; omega⟩
  ·obtain rfl : k = n := by omega
   have HT : Hid (ps.take k = ps ∧ ps.drop k = []) := ⟨List.take_of_length_le (by have := HN.out; omega), List.drop_eq_nil_of_le (by have := HN.out; omega)⟩
   have HFIN : Hid (RdP wr A ps ∧ Eye wr b rest ∧ Frame [b] w wr) := by
    have h1 := H.out.own.rd
    have h2 := H.out.eye
    rw [HT.out.1] at h1
    rw [HT.out.2] at h2
    have e : ∀ o, pairsB o [] = [] := fun o => by cases o <;> rfl
    rw [e, List.nil_append] at h2
    exact ⟨h1, h2, H.out.fr⟩
   go_wp2
   go_ret
   exact ⟨A, cap, rfl, HFIN.out⟩
end Go.Proofs.YtlbnlmhcpephbaaGreatDoor

namespace Go.Proofs.YtlbnlmhcpephbaaGreatDoor
open Go.RowKit
structure SLoad (s : Bool) (most : Int) (rs : List (Int × Int)) (lost : Int) : Prop where
 gm : GdM rs
 ln : (rs.length : Int) ≤ most
 sm : sumP rs + lost ≤ 9223372036854775807
 win : Win s most rs
 em : rs = [] → lost = 0
def SLoadR (s : Bool) (most : Int) (rs : List (Int × Int)) (lost : Int) (w : World) (e : Ending) (w' : World) : Prop :=
 (SLoad s most rs lost ∧ ∃ c S, e = .returned (.tuple #[.iface (sKnd s).T (.pointer (some ⟨c, 0, none⟩)), .int .i64 0]) ∧ Within S w.heap.size w'.heap.size ∧ Sto w' s c S most rs (sumP rs + lost)) ∨
 (¬ SLoad s most rs lost ∧ e = .returned (.tuple #[.nilIface, .int .i64 1]))
set_option maxRecDepth 100000 in
set_option maxHeartbeats 1000000 in
theorem sload_any (s : Bool) (A : Option Addr) (len cap : Nat) (rs : List (Int × Int)) (most lost : Int) (w : World) (h1 : 1 ≤ most) (h2 : most ≤ 4096) (hl : rs.length = len) (hm : len ≤ 9223372036854775807) (hR : RdP w A rs) (hok : okP rs) (h3 : 0 ≤ lost) (h4 : lost < 18446744073709551616) :
  Calls Tryz.prog 101 #[.int .i64 (sideZ s), .int .i64 most, .slice A len cap, .int .u64 lost] w fun e w' => SLoadR s most rs lost w e w' ∧ Below w.heap.size w w' := by
 cases s
 ·have HN := Lib.hid (Hi.lload_any A len cap rs most lost w h1 h2 hl hm hR hok h3 h4)
  show Calls _ _ #[.int .i64 1, .int .i64 most, .slice A len cap, .int .u64 lost] _ _
  clear h1 h2 h3 h4 hl hm hR hok
  go_enter Tryz.func101, Tryz.ntmps101
  go_wp2_with fail
  refine HN.out.mono ?_
  rintro e w1 ⟨⟨hO, c, S, rfl, hW, hS⟩ | ⟨hO, rfl⟩, hb⟩
  ·have HF : Hid (SLoadR false most rs lost w (.returned (.tuple #[.iface 239 (.pointer (some ⟨c, 0, none⟩)), .int .i64 0])) w1 ∧ Below w.heap.size w w1) := ⟨.inl ⟨⟨hO.gm, hO.ln, hO.sm, hO.win, hO.em⟩, c, S, rfl, hW, hS⟩, hb⟩
   clear hO hW hS hb HN
   go_wp2
   go_ret2
   exact HF.out
  ·have HF : Hid (SLoadR false most rs lost w (.returned (.tuple #[.nilIface, .int .i64 1])) w1 ∧ Below w.heap.size w w1) := ⟨.inr ⟨fun k => hO ⟨k.gm, k.ln, k.sm, k.win, k.em⟩, rfl⟩, hb⟩
   clear hO hb HN
   go_wp2
   go_ret2
   exact HF.out
 ·have HN := Lib.hid (Lo.lload_any A len cap rs most lost w h1 h2 hl hm hR hok h3 h4)
  show Calls _ _ #[.int .i64 0, .int .i64 most, .slice A len cap, .int .u64 lost] _ _
  clear h1 h2 h3 h4 hl hm hR hok
  go_enter Tryz.func101, Tryz.ntmps101
  go_wp2_with fail
  refine HN.out.mono ?_
  rintro e w1 ⟨⟨hO, c, S, rfl, hW, hS⟩ | ⟨hO, rfl⟩, hb⟩
  ·have HF : Hid (SLoadR true most rs lost w (.returned (.tuple #[.iface 242 (.pointer (some ⟨c, 0, none⟩)), .int .i64 0])) w1 ∧ Below w.heap.size w w1) := ⟨.inl ⟨⟨hO.gm, hO.ln, hO.sm, hO.win, hO.em⟩, c, S, rfl, hW, hS⟩, hb⟩
   clear hO hW hS hb HN
   go_wp2
   go_ret2
   exact HF.out
  ·have HF : Hid (SLoadR true most rs lost w (.returned (.tuple #[.nilIface, .int .i64 1])) w1 ∧ Below w.heap.size w w1) := ⟨.inr ⟨fun k => hO ⟨k.gm, k.ln, k.sm, k.win, k.em⟩, rfl⟩, hb⟩
   clear hO hb HN
   go_wp2
   go_ret2
   exact HF.out
end Go.Proofs.YtlbnlmhcpephbaaGreatDoor

namespace Go.Proofs.YtlbnlmhcpephbaaGreatDoor
open Go.RowKit
def RepOk (rep : Int → Int) (q : List (Int × Int)) : Prop := ∀ x ∈ q, 0 ≤ x.1 ∧ rep x.1 ≠ 0
structure BLoad (rep : Int → Int) (s : Bool) (most : Int) (q0 q1 : List (Int × Int)) (lo0 lo1 zero : Int) : Prop where
 r0 : RepOk rep q0
 r1 : RepOk rep q1
 l0 : SLoad s most q0 lo0
 l1 : SLoad s most q1 lo1
 sm : (sumP q0 + lo0) + (sumP q1 + lo1) + zero ≤ 9223372036854775807
def BLoadR (b : Nat) (S : List Nat) (k : Bool) (part : Nat → Int) (rep : Int → Int) (s : Bool) (most : Int) (q0 q1 : List (Int × Int)) (lo0 lo1 zero : Int) (w : World) (e : Ending) (w' : World) : Prop :=
 (BLoad rep s most q0 q1 lo0 lo1 zero ∧ e = .returned (.int .i64 0) ∧ ∃ S', GrownS S S' w.heap.size ∧ Bn w' b S' k part rep s most q0 q1 (sumP q0 + lo0) (sumP q1 + lo1) zero ∧ Frame S w w') ∨
 (¬ BLoad rep s most q0 q1 lo0 lo1 zero ∧ e = .returned (.int .i64 1) ∧ Below w.heap.size w w')
def rowOf (q0 q1 : List (Int × Int)) (k : Nat) : List (Int × Int) := if k = 0 then q0 else q1
def lostOf (lo0 lo1 : Int) (k : Nat) : Int := if k = 0 then lo0 else lo1
theorem BLoad.row {rep : Int → Int} {s : Bool} {most : Int} {q0 q1 : List (Int × Int)} {lo0 lo1 zero : Int} (h : BLoad rep s most q0 q1 lo0 lo1 zero) (k : Nat) : RepOk rep (rowOf q0 q1 k) := by
 unfold rowOf; split
 ·exact h.r0
 ·exact h.r1
theorem BLoad.sl {rep : Int → Int} {s : Bool} {most : Int} {q0 q1 : List (Int × Int)} {lo0 lo1 zero : Int} (h : BLoad rep s most q0 q1 lo0 lo1 zero) (k : Nat) : SLoad s most (rowOf q0 q1 k) (lostOf lo0 lo1 k) := by
 unfold rowOf lostOf; split
 ·exact h.l0
 ·exact h.l1
end Go.Proofs.YtlbnlmhcpephbaaGreatDoor

namespace Go.Proofs.YtlbnlmhcpephbaaGreatDoor
open Go.RowKit
def plus3Q (a b c : Int) : Int := if a + b + c ≤ 9223372036854775807 then a + b + c else 0
theorem plus3_any (g : Nat) (a b c : Int) (w : World) (ha : 0 ≤ a ∧ a < 18446744073709551616) (hb : 0 ≤ b ∧ b < 18446744073709551616) (hc : 0 ≤ c ∧ c < 18446744073709551616)
  (h0 : w.cell? ⟨g, 0, none⟩ = some (.int .u64 a)) (h1 : w.cell? ⟨g, 1, none⟩ = some (.int .u64 b)) (h2 : w.cell? ⟨g, 2, none⟩ = some (.int .u64 c)) :
  Calls Tryz.prog 102 #[.slice (some ⟨g, 0, none⟩) 3 3] w fun e w' => e = .returned (.tuple #[.int .u64 (plus3Q a b c), .bool (decide (a + b + c ≤ 9223372036854775807))]) ∧ w = w' := by
 refine (plus_any (some ⟨g, 0, none⟩) 3 3 [a, b, c] w rfl (by omega) (by intro x hx; simp at hx; omega) (fun j hj => ⟨_, rfl, ?_⟩)).mono ?_
 ·rcases (show j = 0 ∨ j = 1 ∨ j = 2 by omega) with rfl | rfl | rfl
  ·simpa [Addr.add] using h0
  ·simpa [Addr.add] using h1
  ·simpa [Addr.add] using h2
 ·rintro e w' ⟨rfl, rfl⟩
  refine ⟨?_, rfl⟩
  congr 1
  have hv : plusF 0 [a, b, c] = if a + b + c ≤ 9223372036854775807 then some (a + b + c) else none := by
   unfold plusF plusF plusF plusF
   by_cases h1 : 0 + a ≤ 9223372036854775807
   ·rw [if_pos h1]
    by_cases h2 : 0 + a + b ≤ 9223372036854775807
    ·rw [if_pos h2]
     by_cases h3 : 0 + a + b + c ≤ 9223372036854775807
     ·rw [if_pos h3, if_pos (by omega), Int.zero_add]
     ·rw [if_neg h3, if_neg (by omega)]
    ·rw [if_neg h2, if_neg (by omega)]
   ·rw [if_neg h1, if_neg (by omega)]
  rw [hv]
  unfold plusV plus3Q
  by_cases h : a + b + c ≤ 9223372036854775807
  ·rw [if_pos h, if_pos h, decide_eq_true h]; rfl
  ·rw [if_neg h, if_neg h, decide_eq_false h]; rfl
def LdS (W : World) (sb : Nat) (s : Bool) (most : Int) (q0 q1 : List (Int × Int)) (lo0 lo1 : Int) (kk : Nat) (v0 v1 : Value) : Prop :=
 kk = 0 ∨
 (kk = 1 ∧ ∃ d D, v0 = .iface (sKnd s).T (.pointer (some ⟨d, 0, none⟩)) ∧ (∀ x ∈ D, sb < x) ∧ Sto W s d D most q0 (sumP q0 + lo0)) ∨
 (kk = 2 ∧ ∃ d D e E, (v0 = .iface (sKnd s).T (.pointer (some ⟨d, 0, none⟩)) ∧ v1 = .iface (sKnd s).T (.pointer (some ⟨e, 0, none⟩))) ∧ ((∀ x ∈ D, sb < x) ∧ ∀ x ∈ E, sb < x) ∧ Apart D E ∧ Sto W s d D most q0 (sumP q0 + lo0) ∧ Sto W s e E most q1 (sumP q1 + lo1))
structure LdI (w W0 W : World) (sb : Nat) (s : Bool) (most : Int) (rep : Int → Int) (q0 q1 : List (Int × Int)) (lo0 lo1 : Int) (kk : Nat) (v0 v1 : Value) : Prop where
 fr : Frame [sb] W0 W
 as' : At W sb #[v0, v1] 248
 st : LdS W sb s most q0 q1 lo0 lo1 kk v0 v1
 ok : ∀ i < kk, RepOk rep (rowOf q0 q1 i) ∧ SLoad s most (rowOf q0 q1 i) (lostOf lo0 lo1 i)
 bl : Below w.heap.size w W
 ge : w.heap.size ≤ sb
section
variable {w W0 W W1 W2 : World} {sb : Nat} {s : Bool} {most : Int} {rep : Int → Int} {q0 q1 : List (Int × Int)} {lo0 lo1 : Int} {kk : Nat} {v0 v1 : Value}
theorem LdS.frame (h : LdS W sb s most q0 q1 lo0 lo1 kk v0 v1) (hF : Frame [sb] W W1) : LdS W1 sb s most q0 q1 lo0 lo1 kk v0 v1 := by
 have ap : ∀ D : List Nat, (∀ x ∈ D, sb < x) → Apart D [sb] := fun D hD j hj hm => by
  have := hD j hj
  simp at hm
  omega
 rcases h with rfl | ⟨rfl, d, D, e1, e2, e3⟩ | ⟨rfl, d, D, e, E, e1, e2, e3, e4, e5⟩
 ·exact .inl rfl
 ·exact .inr (.inl ⟨rfl, d, D, e1, e2, e3.frame hF (ap D e2)⟩)
 ·exact .inr (.inr ⟨rfl, d, D, e, E, e1, e2, e3, e4.frame hF (ap D e2.1), e5.frame hF (ap E e2.2)⟩)
theorem LdI.below (h : LdI w W0 W sb s most rep q0 q1 lo0 lo1 kk v0 v1) (hb : Below W.heap.size W W1) : LdI w W0 W1 sb s most rep q0 q1 lo0 lo1 kk v0 v1 :=
 ⟨h.fr.trans (Frame.of_below hb), h.as'.below hb, h.st.frame (Frame.of_below hb), h.ok, keep1 h.bl hb, h.ge⟩
theorem LdI.more (h : LdI w W0 W sb s most rep q0 q1 lo0 lo1 kk v0 v1) (hk : kk < 2) {d : Nat} {D : List Nat} (hb : Below W.heap.size W W1) (hW : Within D W.heap.size W1.heap.size) (hS : Sto W1 s d D most (rowOf q0 q1 kk) (sumP (rowOf q0 q1 kk) + lostOf lo0 lo1 kk))
  (hr : RepOk rep (rowOf q0 q1 kk)) (hl : SLoad s most (rowOf q0 q1 kk) (lostOf lo0 lo1 kk)) :
  ∃ u0 u1, LdI w W0 (W1.setCell ⟨sb, kk, none⟩ (.iface (sKnd s).T (.pointer (some ⟨d, 0, none⟩)))) sb s most rep q0 q1 lo0 lo1 (kk + 1) u0 u1 := by
 have h1 := h.below hb
 have hF : Frame [sb] W1 (W1.setCell ⟨sb, kk, none⟩ (.iface (sKnd s).T (.pointer (some ⟨d, 0, none⟩)))) := Frame.set [sb] W1 sb kk _ (by simp)
 have hlt := h.as'.lt
 have hD : ∀ x ∈ D, sb < x := fun x hx => by have := (hW x hx).1; omega
 have hap : Apart D [sb] := fun j hj hm => by
  have := hD j hj
  simp at hm
  omega
 have hok : ∀ i < kk + 1, RepOk rep (rowOf q0 q1 i) ∧ SLoad s most (rowOf q0 q1 i) (lostOf lo0 lo1 i) := fun i hi => by
  rcases (by omega : i < kk ∨ i = kk) with h3 | rfl
  ·exact h.ok i h3
  ·exact ⟨hr, hl⟩
 have hbl : Below w.heap.size w (W1.setCell ⟨sb, kk, none⟩ (.iface (sKnd s).T (.pointer (some ⟨d, 0, none⟩)))) := h1.bl.setCell h.ge _
 rcases (by omega : kk = 0 ∨ kk = 1) with rfl | rfl
 ·have e1 : rowOf q0 q1 0 = q0 := rfl
  have e2 : lostOf lo0 lo1 0 = lo0 := rfl
  rw [e1, e2] at hS
  exact ⟨_, _, h1.fr.trans hF, h1.as'.set_any 0 _ rfl, .inr (.inl ⟨rfl, d, D, rfl, hD, hS.frame hF hap⟩), hok, hbl, h.ge⟩
 ·have e1 : rowOf q0 q1 1 = q1 := rfl
  have e2 : lostOf lo0 lo1 1 = lo1 := rfl
  rw [e1, e2] at hS
  rcases h.st with h3 | ⟨_, d0, D0, f1, f2, f3⟩ | ⟨h3, _⟩
  ·omega
  ·have hF0 : Frame [sb] W (W1.setCell ⟨sb, 1, none⟩ (.iface (sKnd s).T (.pointer (some ⟨d, 0, none⟩)))) := (Frame.of_below hb).trans hF
   refine ⟨_, _, h1.fr.trans hF, h1.as'.set_any 1 _ rfl, .inr (.inr ⟨rfl, d0, D0, d, D, ⟨f1, rfl⟩, ⟨f2, hD⟩, fun j hj hm => ?_, f3.frame hF0 (fun j hj hm => ?_), hS.frame hF hap⟩), hok, hbl, h.ge⟩
   ·have := f3.lt j hj
    have := (hW j hm).1
    omega
   ·have := f2 j hj
    simp at hm
    omega
  ·omega
end
theorem LdI.start {w W0 : World} {sb : Nat} {s : Bool} {most : Int} {rep : Int → Int} {q0 q1 : List (Int × Int)} {lo0 lo1 : Int} {v0 v1 : Value} (h : At W0 sb #[v0, v1] 248) (hb : Below w.heap.size w W0) (hg : w.heap.size ≤ sb) : LdI w W0 W0 sb s most rep q0 q1 lo0 lo1 0 v0 v1 :=
 ⟨Frame.refl _ _, h, .inl rfl, fun i hi => by omega, hb, hg⟩
theorem BnB.stored {PB : List Nat} {W : World} {b pa c0 c1 d0 d1 : Nat} {k s : Bool} {part : Nat → Int} {rep : Int → Int} {S0 S1 D0 D1 : List Nat} {most t0 t1 z0 u0 u1 zero : Int} {ps0 ps1 q0 q1 : List (Int × Int)}
  (h : BnB PB W b k pa part rep s most c0 c1 S0 S1 ps0 ps1 t0 t1 z0) (h0 : Sto W s d0 D0 most q0 u0) (h1 : Sto W s d1 D1 most q1 u1) (n0 : b ∉ D0) (n1 : b ∉ D1) (ha : Apart D0 D1) (a0 : Apart PB D0) (a1 : Apart PB D1) :
  BnB PB (((W.setCell ⟨b, 3, none⟩ (.iface (sKnd s).T (.pointer (some ⟨d0, 0, none⟩)))).setCell ⟨b, 4, none⟩ (.iface (sKnd s).T (.pointer (some ⟨d1, 0, none⟩)))).setCell ⟨b, 5, none⟩ (.int .u64 zero)) b k pa part rep s most d0 d1 D0 D1 q0 q1 u0 u1 zero ∧
  Frame [b] W (((W.setCell ⟨b, 3, none⟩ (.iface (sKnd s).T (.pointer (some ⟨d0, 0, none⟩)))).setCell ⟨b, 4, none⟩ (.iface (sKnd s).T (.pointer (some ⟨d1, 0, none⟩)))).setCell ⟨b, 5, none⟩ (.int .u64 zero)) := by
 have hF : Frame [b] W (((W.setCell ⟨b, 3, none⟩ (.iface (sKnd s).T (.pointer (some ⟨d0, 0, none⟩)))).setCell ⟨b, 4, none⟩ (.iface (sKnd s).T (.pointer (some ⟨d1, 0, none⟩)))).setCell ⟨b, 5, none⟩ (.int .u64 zero)) :=
  ((Frame.set [b] W b 3 _ (by simp)).trans (Frame.set [b] _ b 4 _ (by simp))).trans (Frame.set [b] _ b 5 _ (by simp))
 have ap : ∀ D : List Nat, b ∉ D → Apart D [b] := fun D hD j hj hm => hD (by simp at hm; rwa [← hm])
 exact ⟨⟨((h.at'.set_any 3 _ rfl).set_any 4 _ rfl).set_any 5 _ rfl, h.pr.frame hF (ap PB h.nb), h0.frame hF (ap D0 n0), h1.frame hF (ap D1 n1), n0, n1, ha, h.nb, a0, a1⟩, hF⟩
theorem BLoadR.bad {b : Nat} {S : List Nat} {k : Bool} {part : Nat → Int} {rep : Int → Int} {s : Bool} {most : Int} {q0 q1 : List (Int × Int)} {lo0 lo1 zero : Int} {w w' : World} (h : ¬ BLoad rep s most q0 q1 lo0 lo1 zero) (hb : Below w.heap.size w w') : BLoadR b S k part rep s most q0 q1 lo0 lo1 zero w (.returned (.int .i64 1)) w' := .inr ⟨h, rfl, hb⟩
theorem RepOk.bad {rep : Int → Int} {q : List (Int × Int)} {j : Nat} (hj : j < q.length) (h : (q[j]'hj).1 < 0 ∨ rep (q[j]'hj).1 = 0) : ¬ RepOk rep q := fun k => by
 have := k _ (List.getElem_mem hj)
 rcases h with h | h
 ·omega
 ·exact this.2 h
theorem rep_step {rep : Int → Int} {q : List (Int × Int)} {j : Nat} (hj : j < q.length) (h : ∀ x ∈ q.take j, 0 ≤ x.1 ∧ rep x.1 ≠ 0) (h1 : 0 ≤ (q[j]'hj).1) (h2 : rep (q[j]'hj).1 ≠ 0) : ∀ x ∈ q.take (j + 1), 0 ≤ x.1 ∧ rep x.1 ≠ 0 := fun x hx => by
 rw [List.take_succ_eq_append_getElem hj] at hx
 rcases List.mem_append.1 hx with hx | hx
 ·exact h x hx
 ·rw [List.mem_singleton.1 hx]
  exact ⟨h1, h2⟩
end Go.Proofs.YtlbnlmhcpephbaaGreatDoor
