/- A slice of uint64 that the call itself builds by 'append'. -/
import Derived.Test.YtghklomcgijdpaaProg
import Derived.Test.YtghklomcgijdpaaBase
import Derived.Test.YtghklomcgijdpaaOpen
import Derived.Maps.AppendAt
import Derived.OwnWalk
import Derived.Below
namespace Go.Proofs.Ytghklomcgijdpaa
open Go.RowKit

def OwnU (base : Nat) (w : World) (A : Option Addr) (cap : Nat) (xs : List Int) : Prop := w.ownsRow base 22 1 (.slice A xs.length cap) xs.length (xs.map (Value.int .u64))
/-- A slice's address leads to these numbers. -/
def RdU (w : World) (A : Option Addr) (xs : List Int) : Prop := Rd w A (xs.map (Value.int .u64))
theorem RdU.below {w w' : World} {A : Option Addr} {xs : List Int} (h : RdU w A xs) (hb : Below w.heap.size w w') : RdU w' A xs := Rd.below h hb
theorem RdU.at {w : World} {A : Option Addr} {xs : List Int} (h : RdU w A xs) (j : Nat) (hj : j < xs.length) : ∃ g o, A = some ⟨g, o, none⟩ ∧ g < w.heap.size ∧ w.cell? ⟨g, o + j, none⟩ = some (.int .u64 (xs[j]'hj)) := by
  obtain ⟨g, o, e, hg, hc⟩ := h j (.int .u64 (xs[j]'hj)) (by rw [List.getElem?_map, List.getElem?_eq_getElem hj]; rfl)
  exact ⟨g, o, e, hg, hc⟩

theorem OwnU.nil (base : Nat) (w : World) : OwnU base w none 0 [] := World.ownsRow_nil w base _ 1
theorem OwnU.below {base cap : Nat} {w w' : World} {A : Option Addr} {xs : List Int} (h : OwnU base w A cap xs) (hb : Below w.heap.size w w') : OwnU base w' A cap xs := by
  obtain ⟨h1, h2⟩ := h
  refine ⟨h1, ?_⟩
  rcases h2 with h2 | ⟨g, c, cur, e, hg, hc, r⟩
  · exact .inl h2
  · exact .inr ⟨g, c, cur, e, hg, (hb.block g (Array.getElem?_eq_some_iff.1 hc).1).trans hc, r⟩
theorem OwnU.rd {base cap : Nat} {w : World} {A : Option Addr} {xs : List Int} (h : OwnU base w A cap xs) : RdU w A xs := by
  intro j u hj
  rcases h.2 with ⟨e, hn⟩ | ⟨g, c, cur, e, hg, hc, r⟩
  · have : xs = [] := List.eq_nil_of_length_eq_zero hn
    subst this
    simp at hj
  · injection e with e1 e2 e3
    subst e1
    have hl := (Array.getElem?_eq_some_iff.1 hc).1
    refine ⟨g, 0, rfl, hl, ?_⟩
    have := World.ownsRow.cells h (g := g) rfl j u hj
    rwa [Addr.add_lit] at this
theorem OwnU.base_le {base cap : Nat} {w : World} {A : Option Addr} {xs : List Int} (h : OwnU base w A cap xs) : ∀ g, A = some g → base ≤ g.block ∧ g.block < w.heap.size := by
  rintro g rfl
  exact World.ownsRow.lt h g.block rfl
/-- Two slices lie apart. -/
def SepA (A B : Option Addr) : Prop := ∀ a b, A = some a → B = some b → a.block ≠ b.block
theorem OwnU.kept {base cap : Nat} {w w' : World} {A B : Option Addr} {n c : Nat} {xs : List Int} (h : OwnU base w B cap xs) (hg : w.grownBy w' (Value.slice A n c).ownBlock) (hs : SepA A B) : OwnU base w' B cap xs := by
  refine World.ownsRow.kept h hg ?_
  cases B with
  | none => exact .inl rfl
  | some b =>
    refine .inr fun e => ?_
    cases A with
    | none => simp [Value.ownBlock] at e
    | some a => simp only [Value.ownBlock, Option.some.injEq] at e; exact hs a b rfl rfl e.symm

theorem Try.underlyingU : Try.prog.underlying 46 = some (.slice 22) := by kernel_rfl
theorem Try.infoU : (Try.prog.info? 22).map (fun i => (i.zero, i.size, i.bytes)) = some (some (.int .u64 0), 1, 8) := by kernel_rfl

theorem wpList_append_u64 {ops : Array Oper} {rest : List Oper} {o : Oper} {a : Act} {Q : Exit → Act → World → Prop} {w : World} (hgd : o.guard = none) (s x : Operand)
    (ho : o.op = .call { callee := .builtin .append, args := #[s, x], argTypes := #[46, 46] })
    (base : Nat) (A : Option Addr) (cap n : Nat) (xs : List Int) (hs : a.eval s = .slice A n cap) (hn : xs.length = n) (hown : OwnU base w A cap xs)
    (ad : Addr) (c : Nat) (p : Int) (hx : a.eval x = .slice (some ad) 1 c) (h0 : w.cell? (ad.add 0) = some (.int .u64 p))
    (hlen : n ≤ 1099511627776) (hbase : base ≤ w.heap.size)
    (h : ∀ A' cap' w', Hid (OwnU base w' A' cap' (xs ++ [p])) → Hid (w.grownBy w' (Value.slice A n cap).ownBlock) → Hid (∀ B : Option Addr, SepA A B → (∀ b, B = some b → b.block < w.heap.size) → SepA A' B) → wpList Try.prog ops Q rest (a.put o.dst (.slice A' (n + 1) cap')) w') :
    wpList Try.prog ops Q (o :: rest) a w := by
  subst hn
  obtain ⟨i, hi, hz, hsz, hby⟩ : ∃ i, Try.prog.info? 22 = some i ∧ i.zero = some (.int .u64 0) ∧ i.size = 1 ∧ i.bytes = 8 := by
    have := Try.infoU
    cases hh : Try.prog.info? 22 with
    | none => rw [hh] at this; cases this
    | some i =>
      rw [hh] at this
      simp only [Option.map_some, Option.some.injEq, Prod.mk.injEq] at this
      exact ⟨i, rfl, this.1, this.2.1, this.2.2⟩
  refine wpList_append_own_at w hgd s x _ ho base _ i _ 1 8 Try.underlyingU hi hz hsz hby rfl (by decide) _ xs.length (xs.map (Value.int .u64)) hs hown ad 1 c [.int .u64 p] hx rfl ?_ ?_ (by simp only [maxLen]; omega) (by omega) hbase ?_
  · intro j u hj
    match j, hj with
    | 0, hj => simp only [List.getElem?_cons_zero, Option.some.injEq] at hj; subst hj; exact h0
  · intro u hu
    simp only [List.mem_singleton] at hu
    subst hu; rfl
  · intro v' w' hown' hg _ hblk
    have hl : (xs ++ [p]).length = xs.length + 1 := by simp
    have hm : (xs ++ [p]).map (Value.int .u64) = xs.map (Value.int .u64) ++ [.int .u64 p] := by simp
    rw [← hm] at hown'
    rcases hown'.2 with ⟨e, hn⟩ | ⟨g, cp, cur, rfl, r⟩
    · omega
    · refine h _ _ _ (by show OwnU _ _ _ _ _; unfold OwnU; rw [hl]; exact hown') hg ?_
      intro B hs hB a' b' ha hb e
      cases ha
      simp only [Value.ownBlock] at hblk
      rcases hblk with hblk | hblk
      · cases A with
        | none => simp at hblk
        | some a =>
          simp only [Option.some.injEq] at hblk
          exact hs a b' rfl hb (hblk.symm.trans e)
      · simp only [Option.some.injEq] at hblk
        have := hB b' hb
        have e' : g = b'.block := e
        omega

theorem new_one0 {w : World} {b : Nat} {u0 : Value} {T : TypeId} (hb : b = w.heap.size) : (w.alloc (.cells #[u0] T)).cell? ((⟨b, 0, none⟩ : Addr).add 0) = some u0 := by
  rw [Addr.add_lit]; exact (At.new' w #[u0] T hb).cell (i := 0) rfl
end Go.Proofs.Ytghklomcgijdpaa

