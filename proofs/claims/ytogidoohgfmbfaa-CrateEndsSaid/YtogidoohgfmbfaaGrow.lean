/- Contracts of package crate: grow, Add. -/
import Derived.Test.YtogidoohgfmbfaaProg
import Derived.Test.YtogidoohgfmbfaaCrate
import Derived.Test.YtogidoohgfmbfaaOpen
import Derived.Laws.MakeOwn
import Derived.Laws.CopyOwn
namespace Go.Proofs.Ytogidoohgfmbfaa
open Go.RowKit

/-- All blocks of the world but one lie as they lay. -/
structure Touch (b : Nat) (w w' : World) : Prop where
  os : w'.os = w.os
  tape : w'.tape = w.tape
  output : w'.output = w.output
  size : w.heap.size ≤ w'.heap.size
  block : ∀ k, k < w.heap.size → k ≠ b → w'.heap[k]? = w.heap[k]?

theorem Touch.of_below {b : Nat} {w w' : World} (h : Below w.heap.size w w') : Touch b w w' := ⟨h.os, h.tape, h.output, h.size, fun k hk _ => h.block k hk⟩
theorem Touch.trans {b : Nat} {w w1 w2 : World} (h : Touch b w w1) (k : Touch b w1 w2) : Touch b w w2 :=
  ⟨k.os.trans h.os, k.tape.trans h.tape, k.output.trans h.output, Nat.le_trans h.size k.size, fun i hi hn => (k.block i (Nat.lt_of_lt_of_le hi h.size) hn).trans (h.block i hi hn)⟩
theorem Touch.set (w : World) (b i : Nat) (v : Value) : Touch b w (w.setCell ⟨b, i, none⟩ v) :=
  ⟨rfl, rfl, rfl, by simp [World.setCell], fun k _ hn => Below.heap_setCell w _ v k hn⟩
theorem Touch.at {b b' : Nat} {w w' : World} {cs : Array Value} {T : TypeId} (h : Touch b w w') (hs : At w b' cs T) (hn : b' ≠ b) : At w' b' cs T := (h.block b' hs.lt hn).trans hs
theorem Touch.rd {b : Nat} {w w' : World} {A : Option Addr} {cs : List Value} (h : Touch b w w') (hr : Rd w A cs) (hn : ∀ a, A = some a → a.block ≠ b) : Rd w' A cs := fun j u hj => by
  obtain ⟨g, o, rfl, hg, hc⟩ := hr j u hj
  refine ⟨g, o, rfl, Nat.lt_of_lt_of_le hg h.size, ?_⟩
  rw [← hc]
  exact World.cell?_of_block (w := w) (h.block g hg (hn _ rfl))

theorem Touch.alloc {b : Nat} {w w' : World} (h : Touch b w w') (o : Obj) : Touch b w (w'.alloc o) := h.trans (Touch.of_below ((Below.refl _ _).alloc (Nat.le_refl _) o))
theorem Touch.setc {b : Nat} {w w' : World} (h : Touch b w w') (i : Nat) (v : Value) : Touch b w (w'.setCell ⟨b, i, none⟩ v) := h.trans (Touch.set w' b i v)
theorem Touch.drew {b : Nat} {w w' : World} (h : Touch b w w') : Touch b w w'.drew := ⟨h.os, h.tape, h.output, h.size, h.block⟩
theorem Touch.drewN {b : Nat} {w w' : World} (h : Touch b w w') (n : Nat) : Touch b w (w'.drewN n) := ⟨h.os, h.tape, h.output, h.size, h.block⟩
theorem Touch.refl (b : Nat) (w : World) : Touch b w w := ⟨rfl, rfl, rfl, Nat.le_refl _, fun _ _ _ => rfl⟩
theorem Touch.new {b g' : Nat} {w w' : World} (h : Touch b w w') (hg : w.heap.size ≤ g') (i : Nat) (v : Value) : Touch b w (w'.setCell ⟨g', i, none⟩ v) :=
  ⟨h.os, h.tape, h.output, by simpa [World.setCell] using h.size, fun k hk hn => (Below.heap_setCell w' _ v k (by show k ≠ g'; omega)).trans (h.block k hk hn)⟩

theorem CrB.of {w : World} {b g n : Nat} {f tot : Int} {cs : List Int} (hn : cs ≠ []) (hl : cs.length = n) (h1 : At w b #[.int .i64 f, .slice (some ⟨g, 0, none⟩) n n, .int .u64 tot] 52) (h2 : At w g (cs.map (Value.int .u64)).toArray 26) : CrB w b g f cs tot := by
  subst hl
  refine ⟨?_, fun _ => h2⟩
  rw [if_neg hn]
  exact h1

theorem mk_one (w : World) : (Instr.makeSlice 50 (.int .i64 1) (.int .i64 1)).run Try.prog w = .ok (.slice (some ⟨w.heap.size, 0, none⟩) 1 1) (w.alloc (.cells #[.int .u64 0] 26)) := by kernel_rfl

theorem grow_new (w : World) (b g : Nat) (f tot q : Int) (h : CrB w b g f [] tot) (hq0 : -9223372036854775808 ≤ q) (hq1 : q ≤ 9223372036854775807) :
    Calls Try.prog 24 #[.pointer (some ⟨b, 0, none⟩), .int .i64 q] w fun e w' => e = .returned (.bool true) ∧ ∃ g', w.heap.size ≤ g' ∧ CrB w' b g' q [0] tot ∧ Touch b w w' := by
  have s1 := h.nil
  have f1 := s1.three
  have l1 := s1.lt
  clear h
  have hmk := mk_one
  go_enter Try.func24, Try.ntmps24
  go_wp2
  go_region_held3 (fun w' => True) (trivial) (fail)
  all_goals
    go_wp2
    go_ret
    exact ⟨rfl, w.heap.size, Nat.le_refl _, CrB.of (by simp) rfl (((s1.set_any 0 _ rfl).set_any 1 _ rfl).alloc _).drew (At.new' _ _ _ (by simp [World.setCell])).drew, ((((Touch.refl b w).setc _ _).setc _ _).alloc _).drew⟩

theorem splice_zero (z : Value) (N K : Nat) (cs : List Value) (h : K + cs.length ≤ N) : splice (List.replicate N z) K cs = List.replicate K z ++ cs ++ List.replicate (N - K - cs.length) z := by
  unfold splice
  rw [List.take_replicate, List.drop_replicate, List.append_assoc, Nat.min_eq_left (by omega), Nat.sub_add_eq]

theorem Try.infoU64 : (Try.prog.info? 26).map (fun i => (i.zero, i.size, i.bytes)) = some (some (.int .u64 0), 1, 8) := by kernel_rfl
theorem Try.sizeU64 : (Try.prog.info? 26).map (·.size) = some 1 := by kernel_rfl
theorem Try.underlyingU64s : Try.prog.underlying 50 = some (.slice 26) := by kernel_rfl

theorem mk_any (N : Nat) (h : N ≤ 1048576) (w : World) : (Instr.makeSlice 50 (.int .i64 N) (.int .i64 N)).run Try.prog w = .ok (.slice (some ⟨w.heap.size, 0, none⟩) N N) (w.alloc (.cells ((List.replicate N (Value.int .u64 0)).toArray) 26)) := by
  obtain ⟨i, hi, hz, hsz, hby⟩ : ∃ i, Try.prog.info? 26 = some i ∧ i.zero = some (.int .u64 0) ∧ i.size = 1 ∧ i.bytes = 8 := by
    have := Try.infoU64
    cases hh : Try.prog.info? 26 with
    | none => rw [hh] at this; cases this
    | some i =>
      rw [hh] at this
      simp only [Option.map_some, Option.some.injEq, Prod.mk.injEq] at this
      exact ⟨i, rfl, this.1, this.2.1, this.2.2⟩
  rw [run_makeSlice w _ _ i _ Try.underlyingU64s hi hz .i64 .i64 N N (by omega) (by omega) (by rw [hsz]; simp; omega) (by rw [hby]; omega) (by omega)]
  rw [hsz]
  simp only [Int.toNat_natCast, Nat.mul_one]
  rw [show madeCells (Value.int .u64 0).cells N = (List.replicate N (Value.int .u64 0)).toArray from Array.ext (by simp [madeCells]) (fun i h1 h2 => by simp [madeCells, Nat.mod_one, Value.cells])]

def crLow (f q : Int) : Int := min f q
def crHigh (f : Int) (n : Nat) (q : Int) : Int := max (f + n - 1) q
/-- The counts from low to high. -/
def crExt (f : Int) (cs : List Int) (q : Int) : List Int :=
  List.replicate (f - crLow f q).toNat 0 ++ cs ++ List.replicate (crHigh f cs.length q - (f + cs.length - 1)).toNat 0

set_option maxHeartbeats 1000000 in
theorem grow_any (w : World) (b g : Nat) (f tot q : Int) (cs : List Int) (h : CrB w b g f cs tot) (ok : CrOk f cs tot) (hn : cs ≠ []) (hbg : b ≠ g) (hq0 : -9223372036854775808 ≤ q) (hq1 : q ≤ 9223372036854775807) :
    Calls Try.prog 24 #[.pointer (some ⟨b, 0, none⟩), .int .i64 q] w fun e w' =>
      (4096 ≤ crHigh f cs.length q - crLow f q ∧ e = .returned (.bool false) ∧ Below w.heap.size w w') ∨
      (crHigh f cs.length q - crLow f q < 4096 ∧ e = .returned (.bool true) ∧ ∃ g', (g' = g ∨ w.heap.size ≤ g') ∧ CrB w' b g' (crLow f q) (crExt f cs q) tot ∧ Touch b w w') := by
  obtain ⟨o1, o2, o3, o4, o5, o6, o7⟩ := ok
  have s1 := h.cons hn
  have s2 := h.2 hn
  have f1 := s1.three
  have l1 := s1.lt
  have l2 := s2.lt
  have hlen : 0 < cs.length := List.length_pos_iff.2 hn
  obtain ⟨n, hN⟩ : ∃ n, cs.length = n := ⟨_, rfl⟩
  rw [hN] at o2 o4 hlen f1 s1 ⊢
  obtain ⟨s, hs⟩ : ∃ s, IntKind.i64.wrap (f + n) = s := ⟨_, rfl⟩
  have ht : IntKind.i64.wrap (s - 1) = f + n - 1 := by subst hs; simp only [IntKind.wrap_i64]; omega
  have hne : ((n : Int) == 0) = false := beq_eq_false_iff_ne.2 (by omega)
  obtain ⟨low, hlow⟩ : ∃ low, crLow f q = low := ⟨_, rfl⟩
  obtain ⟨high, hhigh⟩ : ∃ high, crHigh f n q = high := ⟨_, rfl⟩
  rw [hlow, hhigh]
  have hl0 : low ≤ f ∧ low ≤ q ∧ (low = f ∨ low = q) := by unfold crLow at hlow; omega
  have hh0 : f + n - 1 ≤ high ∧ q ≤ high ∧ (high = f + n - 1 ∨ high = q) := by unfold crHigh at hhigh; omega
  obtain ⟨hl1, hl2, hl3⟩ := hl0
  obtain ⟨hh1, hh2, hh3⟩ := hh0
  have hmin : (if q < f then q else f) = low := by split <;> omega
  have hmax : (if f + n - 1 < q then q else f + n - 1) = high := by split <;> omega
  go_enter Try.func24, Try.ntmps24
  go_wp2
  go_quiet (fail)
  go_wp2_with fail
  clear hmin hmax
  refine (far_any low high _ (by omega) (by omega) (by omega)).mono ?_
  rintro e w1 ⟨m, rfl, hm, rfl⟩
  by_cases hfar : high - low < 4096
  · rw [decide_eq_true hfar]
    obtain rfl := hm hfar
    clear hm
    by_cases hgr : (n : Int) < high - low + 1
    · obtain ⟨N, hNN⟩ : ∃ N : Nat, high - low + 1 = N := ⟨(high - low + 1).toNat, by omega⟩
      obtain ⟨K, hKK⟩ : ∃ K : Nat, f - low = K := ⟨(f - low).toNat, by omega⟩
      rw [hNN] at hgr ⊢
      have hmk := mk_any N (by omega)
      have hK1 : (K : Int) < N := by omega
      have hK0 : (0 : Int) ≤ K := by omega
      have hKN : K + n ≤ N := by omega
      have hsub : IntKind.i64.wrap (f - low) = K := by rw [hKK]; simp only [IntKind.wrap_i64]; omega
      have hc2 : ¬ (N = K) := by omega
      have hc8 : K ≤ N := by omega
      have HKK := Lib.hid hKK
      have HNN := Lib.hid hNN
      clear hKK hNN
      have hxs : cs.map (Value.int .u64) ≠ [] := by simpa using hn
      obtain ⟨xs, HX⟩ : ∃ xs, Hid (cs.map (Value.int .u64) = xs) := ⟨_, rfl⟩
      have hxl : xs.length = n := by rw [← HX.out, List.length_map, hN]
      have hx1 : ∀ v ∈ xs, v.oneCell' = true := by
        intro v hv
        rw [← HX.out] at hv
        obtain ⟨z, _, rfl⟩ := List.mem_map.1 hv
        rfl
      have s2' := s2
      rw [HX.out] at s2'
      go_wp2
      refine gen_world (fun W => At W b #[.int .i64 f, .slice (some ⟨g, 0, none⟩) n n, .int .u64 tot] 52 ∧ At W g xs.toArray 26 ∧ At W w.heap.size (List.replicate N (Value.int .u64 0)).toArray 26 ∧ Below w.heap.size w W)
        ⟨(s1.drewN _).alloc _, (s2'.drewN _).alloc _, by rw [List.toArray_replicate]; exact At.new' _ _ _ rfl, (by repeat (first | with_reducible assumption | with_reducible exact Below.refl _ _ | with_reducible refine Below.drew ?_ | with_reducible refine Below.drewN ?_ _ | with_reducible refine Below.setCell ?_ (by first | omega | (simp; done) | (simp; omega)) _ | with_reducible refine Below.alloc ?_ (by first | omega | (simp; done) | (simp; omega) | (simp [World.setCell]; omega)) _))⟩ ?_
      rintro W ⟨t1, t2, t3, hB⟩
      clear hmk
      have MK : Hid (∀ w', Below w.heap.size W w' → w'.cell? ⟨b, 0, none⟩ = some (.int .i64 f) ∧ w'.cell? ⟨b, 1, none⟩ = some (.slice (some ⟨g, 0, none⟩) n n)) := fun w' hb => ⟨cellB hb l1 t1.three.1, cellB hb l1 t1.three.2.1⟩
      go_region_held3 (fun w' => w'.cell? ⟨b, 0, none⟩ = some (.int .i64 f) ∧ w'.cell? ⟨b, 1, none⟩ = some (.slice (some ⟨g, 0, none⟩) n n))
        (((try go_split_ands); first | exact MK.out _ (Below.drew (Below.refl _ _)) | (refine MK.out _ ?_; assumption)))
        ((refine step_copy_splice rfl (.tmp 69) (.tmp 73) 50 50 rfl 26 Try.underlyingU64s Try.sizeU64 _ _ _ _ _ _ rfl rfl w.heap.size K (List.replicate N (Value.int .u64 0)) 26 t3.drew xs (by rw [hxl]; exact (Nat.min_eq_left (by omega)).symm) (fun _ => ⟨rfl, _, rfl, fun j v hj => by rw [Addr.add_lit, Nat.zero_add]; exact t2.drew.cell (by rw [List.getElem?_toArray]; exact hj)⟩) (by rw [hxl, List.length_replicate]; exact hKN) hx1 w.heap.size W (Below.drew (Below.refl _ _)) (Nat.le_refl _) ?_; intro w4 hg4 hb4))
      have t4 : At w4 b #[.int .i64 f, .slice (some ⟨g, 0, none⟩) n n, .int .u64 tot] 52 := t1.of_below hb4 l1
      have f4 := t4.three
      have hB4 : Below w.heap.size w w4 := hB.trans hb4
      have z4 := hB4.size
      go_wp2
      go_ret
      refine .inr ⟨hfar, rfl, w.heap.size, .inr (Nat.le_refl _), CrB.of ?_ ?_ ((t4.set_any 0 _ rfl).set_any 1 _ rfl) ((At.set_other ?_ (by show w.heap.size ≠ b; omega) _).set_other (by show w.heap.size ≠ b; omega) _), ((Touch.of_below hB4).setc _ _).setc _ _⟩
      · intro e
        have := congrArg List.length e
        simp only [crExt, List.length_append, List.length_replicate, hN, List.length_nil] at this
        omega
      · simp only [crExt, List.length_append, List.length_replicate, hN, hlow, hhigh]
        have := HNN.out
        omega
      · have h4 := hg4.out
        rw [splice_zero _ N K xs (by omega), hxl, ← HX.out] at h4
        have e1 : (f - low).toNat = K := by have := HKK.out; omega
        have e2 : (high - (f + n - 1)).toNat = N - K - n := by have := HKK.out; have := HNN.out; omega
        show At w4 _ _ _
        unfold crExt
        rw [hlow, hN, hhigh, e1, e2]
        unfold At
        simpa using h4
    · have e1 : low = f := by omega
      have e2 : high = f + n - 1 := by omega
      have HE : Hid (crExt f cs q = cs) := by
        show _ = _
        unfold crExt
        rw [hlow, hN, hhigh, e1, e2]
        simp
      go_wp2
      go_ret
      refine .inr ⟨hfar, rfl, g, .inl rfl, ?_, (Touch.refl _ _).drewN _⟩
      rw [HE.out, e1]
      exact h
  · rw [decide_eq_false hfar]
    go_wp2
    go_ret
    exact .inl ⟨by omega, rfl, (Below.refl _ _).drewN _⟩
end Go.Proofs.Ytogidoohgfmbfaa

