/- Contracts of the document's lumps: less, Lay, Total. -/
import Derived.Test.YtbmnebpjjghkpaaProg
import Derived.Test.YtbmnebpjjghkpaaLumpSk
import Derived.Test.YtbmnebpjjghkpaaLumpJoin
namespace Go.Proofs.Ytbmnebpjjghkpaa
open Go.RowKit

structure DocKB (w : World) (m : Nat) (A : Option Addr) (c : Nat) (most : Int) (ls : List Lu) : Prop where
  at' : At w m #[.int .i64 most, .slice A ls.length c] 37
  own : Own3D 0 w A c ls
  ne : m ∉ blk A
theorem Own3D.frame {base c : Nat} {A : Option Addr} {w w' : World} {T : List Nat} {ls : List Lu} (h : Own3D base w A c ls) (hf : Frame T w w') (hn : ∀ k ∈ blk A, k ∉ T) : Own3D base w' A c ls := by
  obtain ⟨h1, h2⟩ := h
  refine ⟨h1, ?_⟩
  rcases h2 with h2 | ⟨g, cp, cur, e, hg, hc, r⟩
  · exact .inl h2
  · refine .inr ⟨g, cp, cur, e, hg, (hf.block g (Array.getElem?_eq_some_iff.1 hc).1 (hn g ?_)).trans hc, r⟩
    simp only [Value.slice.injEq] at e
    rw [e.1]
    simp [blk]
/-- The document's, and the blocks that are its own. -/
def DocK (w : World) (m : Nat) (S : List Nat) (most : Int) (ls : List Lu) : Prop := ∃ A c, S = m :: blk A ∧ DocKB w m A c most ls
section
variable {w w' : World} {b : Nat} {S T : List Nat} {most : Int} {ls : List Lu}
theorem DocK.frame (h : DocK w b S most ls) (hf : Frame T w w') (hn : Apart S T) : DocK w' b S most ls := by
  obtain ⟨A, c, rfl, h⟩ := h
  exact ⟨A, c, rfl, hf.at h.at' (hn b (by simp)), h.own.frame hf (fun k hk => hn k (by simp [hk])), h.ne⟩
theorem DocK.below (h : DocK w b S most ls) (hb : Below w.heap.size w w') : DocK w' b S most ls := h.frame (T := []) (Frame.of_below hb) (fun _ _ => by simp)
theorem DocK.lt (h : DocK w b S most ls) : ∀ k ∈ S, k < w.heap.size := by
  obtain ⟨A, c, rfl, h⟩ := h
  intro k hk
  rcases List.mem_cons.1 hk with rfl | hk
  · exact h.at'.lt
  · cases A with
    | none => simp [blk] at hk
    | some a => simp only [blk, List.mem_singleton] at hk; subst hk; exact (h.own.base_le a rfl).2
theorem DocK.mem (h : DocK w b S most ls) : b ∈ S := by obtain ⟨A, c, rfl, _⟩ := h; simp
end
/-- What a change leaves. -/
def DocKR (m : Nat) (S : List Nat) (most : Int) (ls : List Lu) (w w' : World) : Prop := ∃ S', GrownS S S' w.heap.size ∧ DocK w' m S' most ls ∧ Frame S w w'

theorem dless_any (n1 l1 h1 n2 l2 h2 : Int) (w : World) :
    Calls Try.prog 39 #[.agg #[.int .u64 n1, .int .i64 l1, .int .i64 h1], .agg #[.int .u64 n2, .int .i64 l2, .int .i64 h2]] w fun e w' => e = .returned (.bool (decide (lless (n1, l1, h1) (n2, l2, h2)))) ∧ Below w.heap.size w w' := by
  by_cases hl : l1 < l2
  · have HE : Hid (decide (lless (n1, l1, h1) (n2, l2, h2)) = true) := decide_eq_true (.inl hl)
    go_enter Try.func39, Try.ntmps39
    go_wp2
    go_ret
    exact ⟨by rw [HE.out]; rfl, (by repeat (first | with_reducible assumption | with_reducible exact Below.refl _ _ | with_reducible refine Below.drew ?_ | with_reducible refine Below.drewN ?_ _ | with_reducible refine Below.setCell ?_ (by first | omega | (simp; done) | (simp; omega)) _ | with_reducible refine Below.alloc ?_ (by first | omega | (simp; done) | (simp; omega) | (simp [World.setCell]; omega)) _))⟩
  · by_cases he : l1 = l2
    · subst he
      by_cases hh : h1 < h2
      · have HE : Hid (decide (lless (n1, l1, h1) (n2, l1, h2)) = true) := decide_eq_true (.inr ⟨rfl, hh⟩)
        go_enter Try.func39, Try.ntmps39
        go_wp2
        go_ret
        exact ⟨by rw [HE.out]; rfl, (by repeat (first | with_reducible assumption | with_reducible exact Below.refl _ _ | with_reducible refine Below.drew ?_ | with_reducible refine Below.drewN ?_ _ | with_reducible refine Below.setCell ?_ (by first | omega | (simp; done) | (simp; omega)) _ | with_reducible refine Below.alloc ?_ (by first | omega | (simp; done) | (simp; omega) | (simp [World.setCell]; omega)) _))⟩
      · have HE : Hid (decide (lless (n1, l1, h1) (n2, l1, h2)) = false) := decide_eq_false (by rintro (h | h); exact hl h; exact hh h.2)
        go_enter Try.func39, Try.ntmps39
        go_wp2
        go_ret
        exact ⟨by rw [HE.out]; rfl, (by repeat (first | with_reducible assumption | with_reducible exact Below.refl _ _ | with_reducible refine Below.drew ?_ | with_reducible refine Below.drewN ?_ _ | with_reducible refine Below.setCell ?_ (by first | omega | (simp; done) | (simp; omega)) _ | with_reducible refine Below.alloc ?_ (by first | omega | (simp; done) | (simp; omega) | (simp [World.setCell]; omega)) _))⟩
    · have HE : Hid (decide (lless (n1, l1, h1) (n2, l2, h2)) = false) := decide_eq_false (by rintro (h | h); exact hl h; exact he h.1)
      have he' : (l1 == l2) = false := beq_eq_false_iff_ne.2 he
      go_enter Try.func39, Try.ntmps39
      go_wp2
      go_ret
      exact ⟨by rw [HE.out]; rfl, (by repeat (first | with_reducible assumption | with_reducible exact Below.refl _ _ | with_reducible refine Below.drew ?_ | with_reducible refine Below.drewN ?_ _ | with_reducible refine Below.setCell ?_ (by first | omega | (simp; done) | (simp; omega)) _ | with_reducible refine Below.alloc ?_ (by first | omega | (simp; done) | (simp; omega) | (simp [World.setCell]; omega)) _))⟩

theorem dktotal_any (m : Nat) (S : List Nat) (most : Int) (ls : List Lu) (w : World) (h : DocK w m S most ls) (hg : GdL ls) (hs : sumN ls ≤ 9223372036854775807) (hl : ls.length ≤ 1048576) :
    Calls Try.prog 41 #[.pointer (some ⟨m, 0, none⟩)] w fun e w' => e = .returned (.int .u64 (sumN ls)) ∧ Below w.heap.size w w' := by
  obtain ⟨A, c, _, hB⟩ := h
  have f1 := hB.at'.two
  have HR := Lib.hid hB.own.rd
  have HG := Lib.hid hg
  have HS := Lib.hid hs
  obtain ⟨len, hlen⟩ : ∃ n, ls.length = n := ⟨_, rfl⟩
  have HLN := Lib.hid hlen
  rw [hlen] at f1 hl
  obtain ⟨tot, htot⟩ : ∃ t, sumN ls = t := ⟨_, rfl⟩
  have HTOT := Lib.hid htot
  rw [htot] at HS ⊢
  clear hB hg hs hlen htot
  go_enter Try.func41, Try.ntmps41
  go_wp2
  go_loopw [3, 5, 11] (fun s _ i wr => ∃ k : Nat, ∃ p : Int, k ≤ len ∧ i = .int .i64 k ∧ s = .int .u64 p ∧ Hid (p = sumN (ls.take k)) ∧ Below w.heap.size w wr) (fun _ _ i _ => len - (intOf i).toNat)
  case atStart => exact ⟨0, 0, by omega, rfl, rfl, rfl, Below.refl _ _⟩
  case round =>
    obtain ⟨k, p, hk, rfl, rfl, HP, hB⟩ := hrel
    have zB := hB.size
    by_cases hlt : k < len
    · obtain ⟨g, o, rfl, hg, c1, c2, c3⟩ := (HR.out.below hB).at k (by have := HLN.out; omega)
      have H1 := Lib.hid (sumN_take ls k (by have := HLN.out; omega))
      have H2 := Lib.hid (sumN_take_le HG.out (k + 1))
      have H3 := Lib.hid (sumN_nonneg (ls := ls.take (k + 1)) fun x hx => HG.out.pos x (List.mem_of_mem_take hx))
      obtain ⟨⟨y1, y2, y3⟩, hy⟩ : ∃ y, ls[k]'(by have := HLN.out; omega) = y := ⟨_, rfl⟩
      rw [hy] at c1 c2 c3 H1
      dsimp only at c1 c2 c3 H1
      clear hy HR f1
      have hw : IntKind.u64.wrap (p + y1) = p + y1 := by have h1 := H1.out; have h2 := H2.out; have h3 := H3.out; have h4 := HP.out; have h5 := HTOT.out; have h6 := HS.out; simp only [IntKind.wrap_u64]; omega
      go_wp2
      go_roundw
      case rel => exact ⟨k + 1, p + y1, by omega, by simp, rfl, by show _ = _; have h1 := H1.out; have h4 := HP.out; omega, (by repeat (first | with_reducible assumption | with_reducible exact Below.refl _ _ | with_reducible refine Below.drew ?_ | with_reducible refine Below.drewN ?_ _ | with_reducible refine Below.setCell ?_ (by first | omega | (simp; done) | (simp; omega)) _ | with_reducible refine Below.alloc ?_ (by first | omega | (simp; done) | (simp; omega) | (simp [World.setCell]; omega)) _))⟩
      case measure => simp [intOf]; omega
    · obtain rfl : k = len := by omega
      have h1 := HP.out
      rw [List.take_of_length_le (by have := HLN.out; omega), HTOT.out] at h1
      have H1 := Lib.hid h1
      clear HR HP h1 f1
      go_wp2
      go_ret
      exact ⟨by rw [← H1.out]; rfl, hB⟩

/-- While the document lays a lump: its box, and the row so far. -/
structure DLay (w wr : World) (B : Nat) (y l2 l3 : Int) (A : Option Addr) (c n : Nat) (out : List Lu) : Prop where
  box : At wr B #[.int .u64 y, .int .i64 l2, .int .i64 l3] 78
  own : Own3D (B + 1) wr A c out
  len : out.length = n
  below : Below w.heap.size w wr
  le : w.heap.size ≤ B
theorem DLay.belowW {w wr w' : World} {B : Nat} {y l2 l3 : Int} {A : Option Addr} {c n : Nat} {out : List Lu} (h : DLay w wr B y l2 l3 A c n out) (hb : Below wr.heap.size wr w') : DLay w w' B y l2 l3 A c n out :=
  ⟨h.box.below hb, h.own.below hb, h.len, h.below.trans (hb.mono h.below.size), h.le⟩
theorem DLay.base {w wr : World} {B : Nat} {y l2 l3 : Int} {A : Option Addr} {c n : Nat} {out : List Lu} (h : DLay w wr B y l2 l3 A c n out) : B + 1 ≤ wr.heap.size := h.box.lt
theorem Own3D.setlow {W : World} {base k i c : Nat} {A : Option Addr} {xs : List Lu} (h : Own3D base W A c xs) (hk : k < base) (x : Value) : Own3D base (W.setCell ⟨k, i, none⟩ x) A c xs := by
  obtain ⟨h1, h2⟩ := h
  refine ⟨h1, ?_⟩
  rcases h2 with h2 | ⟨g, cp, cur, e, hg, hc, r⟩
  · exact .inl h2
  · exact .inr ⟨g, cp, cur, e, hg, (Below.heap_setCell W ⟨k, i, none⟩ x g (by show g ≠ k; omega)).trans hc, r⟩
theorem DLay.set {w wr : World} {B : Nat} {y l2 l3 : Int} {A : Option Addr} {c n : Nat} {out : List Lu} (h : DLay w wr B y l2 l3 A c n out) (z : Int) : DLay w (wr.setCell ⟨B, 0, none⟩ (.int .u64 z)) B z l2 l3 A c n out :=
  ⟨h.box.set_any 0 _ rfl, h.own.setlow (by omega) _, h.len, h.below.setCell (p := ⟨B, 0, none⟩) h.le _, h.le⟩
/-- A row more behind the append. -/
theorem DLay.app {w wr w' : World} {B : Nat} {y l2 l3 : Int} {A A' : Option Addr} {c c' n n' : Nat} {out out' : List Lu} (h : DLay w wr B y l2 l3 A c n out) (ho : Own3D (B + 1) w' A' c' out') (hn : out'.length = n') (hb : Below (B + 1) wr w') : DLay w w' B y l2 l3 A' c' n' out' :=
  ⟨(hb.block B (by omega)).trans h.box, ho, hn, h.below.trans (hb.mono (by have := h.le; omega)), h.le⟩
theorem Own3D.mem {w : World} {A : Option Addr} {c base : Nat} {ls : List Lu} (h : Own3D base w A c ls) : ∀ k ∈ blk A, base ≤ k ∧ k < w.heap.size := fun k hk => by
  cases A with
  | none => simp [blk] at hk
  | some a => simp only [blk, List.mem_singleton] at hk; subst hk; exact h.base_le a rfl
end Go.Proofs.Ytbmnebpjjghkpaa

