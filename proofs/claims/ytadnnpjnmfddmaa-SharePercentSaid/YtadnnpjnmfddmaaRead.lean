/- Contract of package share's Read. -/
import Derived.Test.YtadnnpjnmfddmaaProg
import Derived.Test.YtadnnpjnmfddmaaShare
import Derived.Lib.OthersKept
import Derived.Laws.RangeAny
import Derived.Laws.RangeString
namespace Go.Proofs.Ytadnnpjnmfddmaa
open Go.RowKit

/-- A text's bytes, as numbers. -/
def bytesN (s : ByteArray) : List Nat := s.data.toList.map UInt8.toNat
theorem bytesN_length (s : ByteArray) : (bytesN s).length = s.size := by
  unfold bytesN
  rw [List.length_map, Array.length_toList]
  rfl
theorem bytesN_drop (s : ByteArray) (k : Nat) (hk : k < s.size) : (bytesN s).drop k = (s[k]'hk).toNat :: (bytesN s).drop (k + 1) := by
  have hl : k < (bytesN s).length := by rw [bytesN_length]; exact hk
  rw [List.drop_eq_getElem_cons hl]
  congr 1
  simp [bytesN]
  rfl

theorem ne_text {s : ByteArray} {l : List UInt8} (h : s ≠ ⟨l.toArray⟩) : (s.toList == l) = false := beq_eq_false_iff_ne.2 fun e => h (by
  rw [ByteArray.toList_eq] at e
  obtain ⟨⟨x⟩⟩ := s
  have : x = l := e
  rw [this])

theorem iterPos_of {W : World} {b p : Nat} {s : ByteArray} (h : W.heap[b]? = some (.stringIter s p)) : W.iterPos b = p := by simp [World.iterPos, h]

/-- What the bytes tell, as share reads them. -/
def readF (n0 n1 : Int) (at' dig : Nat) : List Nat → Option (Int × Int × Nat × Nat)
  | [] => some (n0, n1, at', dig)
  | c :: l =>
    if 48 ≤ c ∧ c ≤ 57 ∧ dig < 18 ∧ (dig = 0 ∨ 0 < (if at' = 0 then n0 else n1)) then
      if at' = 0 then readF ((10 * n0 + ((c : Int) - 48)) % 18446744073709551616) n1 at' (dig + 1) l else readF n0 ((10 * n1 + ((c : Int) - 48)) % 18446744073709551616) at' (dig + 1) l
    else if c = 47 ∧ at' = 0 ∧ 0 < dig then readF n0 n1 1 0 l
    else if c = 37 ∧ at' = 0 ∧ 0 < dig ∧ l = [] then readF n0 100 1 dig l
    else none
def readEnd : Option (Int × Int × Nat × Nat) → (Int × Int) × Bool
  | none => ((0, 0), false)
  | some (n0, n1, at', dig) => if at' = 0 ∨ dig = 0 ∨ goodF n0 n1 = false then ((0, 0), false) else ((n0, n1), true)

def sLeast : ByteArray := ⟨#[108, 101, 97, 115, 116]⟩
def sQuarter : ByteArray := ⟨#[113, 117, 97, 114, 116, 101, 114]⟩
def sHalf : ByteArray := ⟨#[104, 97, 108, 102]⟩
def sMost : ByteArray := ⟨#[109, 111, 115, 116]⟩
def readV (s : ByteArray) : (Int × Int) × Bool :=
  if s = sLeast then ((0, 1), true) else if s = sQuarter then ((1, 4), true) else if s = sHalf then ((1, 2), true) else if s = sMost then ((1, 1), true) else readEnd (readF 0 0 0 0 (bytesN s))

def partV (r : (Int × Int) × Bool) : Value := .tuple #[.agg #[.int .u64 r.1.1, .int .u64 r.1.2], .bool r.2]

theorem readF_digit0 {n0 n1 : Int} {dig c : Nat} {l : List Nat} (h1 : 48 ≤ c) (h2 : c ≤ 57) (h3 : dig < 18) (h4 : dig = 0 ∨ 0 < n0) : readF n0 n1 0 dig (c :: l) = readF ((10 * n0 + ((c : Int) - 48)) % 18446744073709551616) n1 0 (dig + 1) l := by
  rw [readF, if_pos ⟨h1, h2, h3, by simpa using h4⟩, if_pos rfl]
theorem readF_digit1 {n0 n1 : Int} {dig c : Nat} {l : List Nat} (h1 : 48 ≤ c) (h2 : c ≤ 57) (h3 : dig < 18) (h4 : dig = 0 ∨ 0 < n1) : readF n0 n1 1 dig (c :: l) = readF n0 ((10 * n1 + ((c : Int) - 48)) % 18446744073709551616) 1 (dig + 1) l := by
  rw [readF, if_pos ⟨h1, h2, h3, by simpa using h4⟩, if_neg (by omega)]
theorem readF_stroke {n0 n1 : Int} {dig c : Nat} {l : List Nat} (h1 : c = 47) (h2 : 0 < dig) : readF n0 n1 0 dig (c :: l) = readF n0 n1 1 0 l := by
  rw [readF, if_neg (by omega), if_pos ⟨h1, rfl, h2⟩]
theorem readF_percent {n0 n1 : Int} {dig c : Nat} (h1 : c = 37) (h2 : 0 < dig) : readF n0 n1 0 dig [c] = readF n0 100 1 dig [] := by
  conv => lhs; rw [readF]
  rw [if_neg (by omega), if_neg (by omega), if_pos ⟨h1, rfl, h2, rfl⟩]
theorem readF_none {n0 n1 : Int} {at' dig c : Nat} {l : List Nat} (h1 : ¬ (48 ≤ c ∧ c ≤ 57 ∧ dig < 18 ∧ (dig = 0 ∨ 0 < (if at' = 0 then n0 else n1)))) (h2 : ¬ (c = 47 ∧ at' = 0 ∧ 0 < dig)) (h3 : ¬ (c = 37 ∧ at' = 0 ∧ 0 < dig ∧ l = [])) : readF n0 n1 at' dig (c :: l) = none := by
  rw [readF, if_neg h1, if_neg h2, if_neg h3]

set_option maxRecDepth 100000 in
set_option maxHeartbeats 4000000 in
theorem read_else (s : ByteArray) (w : World) (hs : s.size ≤ 9223372036854775807) (g1 : (s.toList == [108, 101, 97, 115, 116]) = false) (g2 : (s.toList == [113, 117, 97, 114, 116, 101, 114]) = false) (g3 : (s.toList == [104, 97, 108, 102]) = false) (g4 : (s.toList == [109, 111, 115, 116]) = false) :
    Calls Try.prog 15 #[.string s] w fun e w' => e = .returned (partV (readEnd (readF 0 0 0 0 (bytesN s)))) ∧ Below w.heap.size w w' := by
  go_enter Try.func15, Try.ntmps15
  go_wp2
  obtain ⟨B, hBe⟩ : ∃ B, w.heap.size = B := ⟨_, rfl⟩
  refine gen_world (fun W => (At W B #[.int .u64 0, .int .u64 0] 24 ∧ At W (B + 1) #[.int .u64 0, .int .u64 0] 52 ∧ W.heap[B + 2]? = some (.stringIter s 0)) ∧ Below w.heap.size w W) ?_ ?_
  · subst hBe
    exact ⟨⟨((At.new' _ _ _ rfl).alloc _).alloc _, (At.new' _ _ _ (by simp)).alloc _, by simpa using World.iter_heap ((w.alloc (.cells #[.int .u64 0, .int .u64 0] 24)).alloc (.cells #[.int .u64 0, .int .u64 0] 52)) s 0⟩, by unfold World.iter; exact (by repeat (first | with_reducible assumption | with_reducible exact Below.refl _ _ | with_reducible refine Below.drew ?_ | with_reducible refine Below.drewN ?_ _ | with_reducible refine Below.setCell ?_ (by first | omega | (simp; done) | (simp; omega)) _ | with_reducible refine Below.alloc ?_ (by first | omega | (simp; done) | (simp; omega) | (simp [World.setCell]; omega)) _))⟩
  rintro W ⟨⟨a1, a2, a3⟩, hB0⟩
  simp only [hBe, Nat.add_assoc, Nat.reduceAdd]
  obtain ⟨R, hR⟩ : ∃ R, Hid (readEnd (readF 0 0 0 0 (bytesN s)) = readEnd R ∧ R = readF 0 0 0 0 (bytesN s)) := ⟨_, rfl, rfl⟩
  go_loopw [5, 6] (fun a d wr => ∃ (k at' dig : Nat) (n0 n1 : Int), k ≤ s.size ∧ at' ≤ 1 ∧ dig ≤ 18 ∧ a = .int .i64 at' ∧ d = .int .i64 dig ∧ 0 ≤ n0 ∧ n0 < 18446744073709551616 ∧ 0 ≤ n1 ∧ n1 < 18446744073709551616 ∧ wr.heap[B + 2]? = some (.stringIter s k) ∧ At wr (B + 1) #[.int .u64 n0, .int .u64 n1] 52 ∧ At wr B #[.int .u64 0, .int .u64 0] 24 ∧ Below w.heap.size w wr ∧ Hid (R = readF n0 n1 at' dig ((bytesN s).drop k)))
    (fun _ _ wr => s.size - wr.iterPos (B + 2))
  case atStart => exact ⟨0, 0, 0, 0, 0, by omega, by omega, by omega, rfl, rfl, by omega, by omega, by omega, by omega, a3, a2, a1, hB0, hR.out.2⟩
  case round =>
    obtain ⟨k, at', dig, n0, n1, hk, hat, hdig, rfl, rfl, p0, p1, p2, p3, hit, b2, b1, hB, HF⟩ := hrel
    by_cases hlt : k < s.size
    · obtain ⟨c, hc⟩ : ∃ c, (s[k]'hlt).toNat = c := ⟨_, rfl⟩
      have hdrop := bytesN_drop s k hlt
      rw [hc] at hdrop
      have HF2 : Hid (R = readF n0 n1 at' dig (c :: (bytesN s).drop (k + 1))) := by show _ = _; rw [← hdrop]; exact HF.out
      clear HF hdrop
      by_cases hasc : c < 128
      · obtain ⟨W2, hW2⟩ : ∃ W2, wr.iterAt (B + 2) s (k + 1) = W2 := ⟨_, rfl⟩
        have hnx := Lib.run_next_ascii_at (P := Try.prog) wr (B + 2) s k 0 hit hlt (by rw [hc]; exact hasc)
        rw [hW2, hc] at hnx
        have hit2 : W2.heap[B + 2]? = some (.stringIter s (k + 1)) := by rw [← hW2]; exact Lib.iterAt_heap wr (B + 2) s k (k + 1) hit
        have t1 : At W2 B #[.int .u64 0, .int .u64 0] 24 := by rw [← hW2]; exact (Lib.iterAt_other wr (B + 2) B s (k + 1) (by omega)).trans b1
        have t2 : At W2 (B + 1) #[.int .u64 n0, .int .u64 n1] 52 := by rw [← hW2]; exact (Lib.iterAt_other wr (B + 2) (B + 1) s (k + 1) (by omega)).trans b2
        have hB2 : Below w.heap.size w W2 := by rw [← hW2]; exact Lib.below_iterAt hB (by omega) s (k + 1)
        have hp1 : wr.iterPos (B + 2) = k := by simp [World.iterPos, hit]
        have hp2 : W2.iterPos (B + 2) = k + 1 := by simp [World.iterPos, hit2]
        have f1 := t1.two
        have f2 := t2.two
        clear hW2 hit hc b1 b2 hB
        have v1 : IntKind.i64.wrap ((s.size : Int) - 1) = s.size - 1 := by simp only [IntKind.wrap_i64]; omega
        have v2 : IntKind.i64.wrap ((dig : Int) + 1) = dig + 1 := by simp only [IntKind.wrap_i64]; omega
        by_cases hP : 48 ≤ c ∧ c ≤ 57 ∧ dig < 18 ∧ (dig = 0 ∨ 0 < (if at' = 0 then n0 else n1))
        · obtain ⟨q1, q2, q3, q4⟩ := hP
          have v3 : IntKind.i32.wrap ((c : Int) - 48) = c - 48 := by simp only [IntKind.wrap_i32]; omega
          have v4 : IntKind.u64.wrap ((c : Int) - 48) = c - 48 := by simp only [IntKind.wrap_u64]; omega
          rcases (show at' = 0 ∨ at' = 1 by omega) with rfl | rfl
          · simp only [if_true] at q4
            have HF3 := HF2.out.trans (readF_digit0 q1 q2 q3 q4)
            obtain ⟨m, hm⟩ : ∃ m, IntKind.u64.wrap (10 * n0) = m := ⟨_, rfl⟩
            obtain ⟨v, hv⟩ : ∃ v, (10 * n0 + ((c : Int) - 48)) % 18446744073709551616 = v := ⟨_, rfl⟩
            have v5 : IntKind.u64.wrap (m + ((c : Int) - 48)) = v := by rw [← hm, ← hv]; simp only [IntKind.wrap_u64]; omega
            have hv0 : 0 ≤ v ∧ v < 18446744073709551616 := by omega
            rw [hv] at HF3
            replace HF3 := Lib.hid HF3
            clear HF2 hv
            have hit3 := fun x : Value => (Below.heap_setCell W2 ⟨B + 1, 0, none⟩ x (B + 2) (by show B + 2 ≠ B + 1; omega)).trans hit2
            rcases q4 with rfl | q4
            · go_wp2
              go_roundw
              case rel => exact ⟨k + 1, 0, 1, v, n1, by omega, by omega, by omega, rfl, rfl, hv0.1, hv0.2, p2, p3, hit3 _, t2.set_any 0 _ rfl, t1.set_other (by show B ≠ B + 1; omega) _, (by repeat (first | with_reducible assumption | with_reducible exact Below.refl _ _ | with_reducible refine Below.drew ?_ | with_reducible refine Below.drewN ?_ _ | with_reducible refine Below.setCell ?_ (by first | omega | (simp; done) | (simp; omega)) _ | with_reducible refine Below.alloc ?_ (by first | omega | (simp; done) | (simp; omega) | (simp [World.setCell]; omega)) _)), HF3⟩
              case measure => rw [iterPos_of (hit3 _), hp1]; omega
            · by_cases hd0 : dig = 0
              · subst hd0
                go_wp2
                go_roundw
                case rel => exact ⟨k + 1, 0, 1, v, n1, by omega, by omega, by omega, rfl, rfl, hv0.1, hv0.2, p2, p3, hit3 _, t2.set_any 0 _ rfl, t1.set_other (by show B ≠ B + 1; omega) _, (by repeat (first | with_reducible assumption | with_reducible exact Below.refl _ _ | with_reducible refine Below.drew ?_ | with_reducible refine Below.drewN ?_ _ | with_reducible refine Below.setCell ?_ (by first | omega | (simp; done) | (simp; omega)) _ | with_reducible refine Below.alloc ?_ (by first | omega | (simp; done) | (simp; omega) | (simp [World.setCell]; omega)) _)), HF3⟩
                case measure => rw [iterPos_of (hit3 _), hp1]; omega
              · have hd1 : ((dig : Int) == 0) = false := beq_eq_false_iff_ne.2 (by omega)
                go_wp2
                go_roundw
                case rel => exact ⟨k + 1, 0, dig + 1, v, n1, by omega, by omega, by omega, rfl, by go_num, hv0.1, hv0.2, p2, p3, hit3 _, t2.set_any 0 _ rfl, t1.set_other (by show B ≠ B + 1; omega) _, (by repeat (first | with_reducible assumption | with_reducible exact Below.refl _ _ | with_reducible refine Below.drew ?_ | with_reducible refine Below.drewN ?_ _ | with_reducible refine Below.setCell ?_ (by first | omega | (simp; done) | (simp; omega)) _ | with_reducible refine Below.alloc ?_ (by first | omega | (simp; done) | (simp; omega) | (simp [World.setCell]; omega)) _)), HF3⟩
                case measure => rw [iterPos_of (hit3 _), hp1]; omega
          · rw [if_neg (by omega)] at q4
            have HF3 := HF2.out.trans (readF_digit1 q1 q2 q3 q4)
            obtain ⟨m, hm⟩ : ∃ m, IntKind.u64.wrap (10 * n1) = m := ⟨_, rfl⟩
            obtain ⟨v, hv⟩ : ∃ v, (10 * n1 + ((c : Int) - 48)) % 18446744073709551616 = v := ⟨_, rfl⟩
            have v5 : IntKind.u64.wrap (m + ((c : Int) - 48)) = v := by rw [← hm, ← hv]; simp only [IntKind.wrap_u64]; omega
            have hv0 : 0 ≤ v ∧ v < 18446744073709551616 := by omega
            rw [hv] at HF3
            replace HF3 := Lib.hid HF3
            clear HF2 hv
            have hit3 := fun x : Value => (Below.heap_setCell W2 ⟨B + 1, 1, none⟩ x (B + 2) (by show B + 2 ≠ B + 1; omega)).trans hit2
            by_cases hd0 : dig = 0
            · subst hd0
              go_wp2
              go_roundw
              case rel => exact ⟨k + 1, 1, 1, n0, v, by omega, by omega, by omega, rfl, rfl, p0, p1, hv0.1, hv0.2, hit3 _, t2.set_any 1 _ rfl, t1.set_other (by show B ≠ B + 1; omega) _, (by repeat (first | with_reducible assumption | with_reducible exact Below.refl _ _ | with_reducible refine Below.drew ?_ | with_reducible refine Below.drewN ?_ _ | with_reducible refine Below.setCell ?_ (by first | omega | (simp; done) | (simp; omega)) _ | with_reducible refine Below.alloc ?_ (by first | omega | (simp; done) | (simp; omega) | (simp [World.setCell]; omega)) _)), HF3⟩
              case measure => rw [iterPos_of (hit3 _), hp1]; omega
            · have hd1 : ((dig : Int) == 0) = false := beq_eq_false_iff_ne.2 (by omega)
              have q5 : 0 < n1 := by omega
              go_wp2
              go_roundw
              case rel => exact ⟨k + 1, 1, dig + 1, n0, v, by omega, by omega, by omega, rfl, by go_num, p0, p1, hv0.1, hv0.2, hit3 _, t2.set_any 1 _ rfl, t1.set_other (by show B ≠ B + 1; omega) _, (by repeat (first | with_reducible assumption | with_reducible exact Below.refl _ _ | with_reducible refine Below.drew ?_ | with_reducible refine Below.drewN ?_ _ | with_reducible refine Below.setCell ?_ (by first | omega | (simp; done) | (simp; omega)) _ | with_reducible refine Below.alloc ?_ (by first | omega | (simp; done) | (simp; omega) | (simp [World.setCell]; omega)) _)), HF3⟩
              case measure => rw [iterPos_of (hit3 _), hp1]; omega
        · by_cases hS : c = 47 ∧ at' = 0 ∧ 0 < dig
          · obtain ⟨q1, rfl, q3⟩ := hS
            have HF3 := Lib.hid (HF2.out.trans (readF_stroke q1 q3))
            subst q1
            clear HF2 hP
            go_wp2
            go_roundw
            case rel => exact ⟨k + 1, 1, 0, n0, n1, by omega, by omega, by omega, rfl, rfl, p0, p1, p2, p3, hit2, t2, t1, hB2, HF3⟩
            case measure => rw [hp2, hp1]; omega
          · by_cases hC : c = 37 ∧ at' = 0 ∧ 0 < dig ∧ (bytesN s).drop (k + 1) = []
            · obtain ⟨q1, rfl, q3, q4⟩ := hC
              have HF3 := HF2.out
              rw [q4, readF_percent q1 q3, ← q4] at HF3
              replace HF3 := Lib.hid HF3
              have hlen := congrArg List.length q4
              rw [List.length_drop, bytesN_length, List.length_nil] at hlen
              have hks : (k : Int) = (s.size : Int) - 1 := by omega
              have hit3 := fun x : Value => (Below.heap_setCell W2 ⟨B + 1, 1, none⟩ x (B + 2) (by show B + 2 ≠ B + 1; omega)).trans hit2
              subst q1
              clear HF2 hP hS q4
              go_wp2
              go_roundw
              case rel => exact ⟨k + 1, 1, dig, n0, 100, by omega, by omega, by omega, rfl, rfl, p0, p1, by omega, by omega, hit3 _, t2.set_any 1 _ rfl, t1.set_other (by show B ≠ B + 1; omega) _, (by repeat (first | with_reducible assumption | with_reducible exact Below.refl _ _ | with_reducible refine Below.drew ?_ | with_reducible refine Below.drewN ?_ _ | with_reducible refine Below.setCell ?_ (by first | omega | (simp; done) | (simp; omega)) _ | with_reducible refine Below.alloc ?_ (by first | omega | (simp; done) | (simp; omega) | (simp [World.setCell]; omega)) _)), HF3⟩
              case measure => rw [iterPos_of (hit3 _), hp1]; omega
            · have HF3 := HF2.out.trans (readF_none hP hS hC)
              subst HF3
              have hres := Lib.hid hR.out.1
              have hlast : (bytesN s).drop (k + 1) = [] ↔ k + 1 = s.size := by
                rw [List.drop_eq_nil_iff, bytesN_length]; omega
              rw [hlast] at hC
              clear hlast hR HF2
              have HX := Lib.hid (And.intro hP (And.intro hS hC))
              clear hP hS hC
              have hB3 : Below B w W2 := by rw [← hBe]; exact hB2
              by_cases z1 : 57 < c
              · have z1' : (57 : Int) < c := by omega
                have z2 : ((c : Int) == 47) = false := beq_eq_false_iff_ne.2 (by omega)
                have z3 : ((c : Int) == 37) = false := beq_eq_false_iff_ne.2 (by omega)
                go_wp2
                have d2 := (t1.set2 (.int .u64 0) (.int .u64 0)).two
                exact bodyPost_ret (v := partV ((0, 0), false)) (by simp only [results, Try.f15, partV]; simp [go_sem, d2]) rfl ⟨by rw [hres.out]; rfl, (by repeat (first | with_reducible assumption | with_reducible exact Below.refl _ _ | with_reducible refine Below.drew ?_ | with_reducible refine Below.drewN ?_ _ | with_reducible refine Below.setCell ?_ (by first | omega | (simp; done) | (simp; omega)) _ | with_reducible refine Below.alloc ?_ (by first | omega | (simp; done) | (simp; omega) | (simp [World.setCell]; omega)) _))⟩
              by_cases z4 : c < 48
              · by_cases z5 : c = 47
                · subst z5
                  rcases (show at' = 1 ∨ (at' = 0 ∧ dig = 0) by have := HX.out; omega) with rfl | ⟨rfl, rfl⟩
                  · go_wp2
                    have d2 := (t1.set2 (.int .u64 0) (.int .u64 0)).two
                    exact bodyPost_ret (v := partV ((0, 0), false)) (by simp only [results, Try.f15, partV]; simp [go_sem, d2]) rfl ⟨by rw [hres.out]; rfl, (by repeat (first | with_reducible assumption | with_reducible exact Below.refl _ _ | with_reducible refine Below.drew ?_ | with_reducible refine Below.drewN ?_ _ | with_reducible refine Below.setCell ?_ (by first | omega | (simp; done) | (simp; omega)) _ | with_reducible refine Below.alloc ?_ (by first | omega | (simp; done) | (simp; omega) | (simp [World.setCell]; omega)) _))⟩
                  · go_wp2
                    have d2 := (t1.set2 (.int .u64 0) (.int .u64 0)).two
                    exact bodyPost_ret (v := partV ((0, 0), false)) (by simp only [results, Try.f15, partV]; simp [go_sem, d2]) rfl ⟨by rw [hres.out]; rfl, (by repeat (first | with_reducible assumption | with_reducible exact Below.refl _ _ | with_reducible refine Below.drew ?_ | with_reducible refine Below.drewN ?_ _ | with_reducible refine Below.setCell ?_ (by first | omega | (simp; done) | (simp; omega)) _ | with_reducible refine Below.alloc ?_ (by first | omega | (simp; done) | (simp; omega) | (simp [World.setCell]; omega)) _))⟩
                by_cases z6 : c = 37
                · subst z6
                  rcases (show at' = 1 ∨ (at' = 0 ∧ dig = 0) ∨ (at' = 0 ∧ 0 < dig ∧ k + 1 ≠ s.size) by have := HX.out; omega) with rfl | ⟨rfl, rfl⟩ | ⟨rfl, y1, y2⟩
                  · go_wp2
                    have d2 := (t1.set2 (.int .u64 0) (.int .u64 0)).two
                    exact bodyPost_ret (v := partV ((0, 0), false)) (by simp only [results, Try.f15, partV]; simp [go_sem, d2]) rfl ⟨by rw [hres.out]; rfl, (by repeat (first | with_reducible assumption | with_reducible exact Below.refl _ _ | with_reducible refine Below.drew ?_ | with_reducible refine Below.drewN ?_ _ | with_reducible refine Below.setCell ?_ (by first | omega | (simp; done) | (simp; omega)) _ | with_reducible refine Below.alloc ?_ (by first | omega | (simp; done) | (simp; omega) | (simp [World.setCell]; omega)) _))⟩
                  · go_wp2
                    have d2 := (t1.set2 (.int .u64 0) (.int .u64 0)).two
                    exact bodyPost_ret (v := partV ((0, 0), false)) (by simp only [results, Try.f15, partV]; simp [go_sem, d2]) rfl ⟨by rw [hres.out]; rfl, (by repeat (first | with_reducible assumption | with_reducible exact Below.refl _ _ | with_reducible refine Below.drew ?_ | with_reducible refine Below.drewN ?_ _ | with_reducible refine Below.setCell ?_ (by first | omega | (simp; done) | (simp; omega)) _ | with_reducible refine Below.alloc ?_ (by first | omega | (simp; done) | (simp; omega) | (simp [World.setCell]; omega)) _))⟩
                  · have y3 : ((k : Int) == (s.size : Int) - 1) = false := beq_eq_false_iff_ne.2 (by omega)
                    have y4 : ¬ ((k : Int) = (s.size : Int) - 1) := by omega
                    go_wp2
                    have d2 := (t1.set2 (.int .u64 0) (.int .u64 0)).two
                    exact bodyPost_ret (v := partV ((0, 0), false)) (by simp only [results, Try.f15, partV]; simp [go_sem, d2]) rfl ⟨by rw [hres.out]; rfl, (by repeat (first | with_reducible assumption | with_reducible exact Below.refl _ _ | with_reducible refine Below.drew ?_ | with_reducible refine Below.drewN ?_ _ | with_reducible refine Below.setCell ?_ (by first | omega | (simp; done) | (simp; omega)) _ | with_reducible refine Below.alloc ?_ (by first | omega | (simp; done) | (simp; omega) | (simp [World.setCell]; omega)) _))⟩
                have z5' : ((c : Int) == 47) = false := beq_eq_false_iff_ne.2 (by omega)
                have z6' : ((c : Int) == 37) = false := beq_eq_false_iff_ne.2 (by omega)
                go_wp2
                have d2 := (t1.set2 (.int .u64 0) (.int .u64 0)).two
                exact bodyPost_ret (v := partV ((0, 0), false)) (by simp only [results, Try.f15, partV]; simp [go_sem, d2]) rfl ⟨by rw [hres.out]; rfl, (by repeat (first | with_reducible assumption | with_reducible exact Below.refl _ _ | with_reducible refine Below.drew ?_ | with_reducible refine Below.drewN ?_ _ | with_reducible refine Below.setCell ?_ (by first | omega | (simp; done) | (simp; omega)) _ | with_reducible refine Below.alloc ?_ (by first | omega | (simp; done) | (simp; omega) | (simp [World.setCell]; omega)) _))⟩
              have z2 : ((c : Int) == 47) = false := beq_eq_false_iff_ne.2 (by omega)
              have z3 : ((c : Int) == 37) = false := beq_eq_false_iff_ne.2 (by omega)
              by_cases z7 : dig < 18
              · have z8 : ((dig : Int) == 0) = false := beq_eq_false_iff_ne.2 (by have := HX.out.1; omega)
                rcases (show at' = 0 ∨ at' = 1 by omega) with rfl | rfl
                · obtain rfl : n0 = 0 := by have h := HX.out.1; simp only [if_true] at h; omega
                  go_wp2
                  have d2 := (t1.set2 (.int .u64 0) (.int .u64 0)).two
                  exact bodyPost_ret (v := partV ((0, 0), false)) (by simp only [results, Try.f15, partV]; simp [go_sem, d2]) rfl ⟨by rw [hres.out]; rfl, (by repeat (first | with_reducible assumption | with_reducible exact Below.refl _ _ | with_reducible refine Below.drew ?_ | with_reducible refine Below.drewN ?_ _ | with_reducible refine Below.setCell ?_ (by first | omega | (simp; done) | (simp; omega)) _ | with_reducible refine Below.alloc ?_ (by first | omega | (simp; done) | (simp; omega) | (simp [World.setCell]; omega)) _))⟩
                · obtain rfl : n1 = 0 := by have h := HX.out.1; rw [if_neg (by omega)] at h; omega
                  go_wp2
                  have d2 := (t1.set2 (.int .u64 0) (.int .u64 0)).two
                  exact bodyPost_ret (v := partV ((0, 0), false)) (by simp only [results, Try.f15, partV]; simp [go_sem, d2]) rfl ⟨by rw [hres.out]; rfl, (by repeat (first | with_reducible assumption | with_reducible exact Below.refl _ _ | with_reducible refine Below.drew ?_ | with_reducible refine Below.drewN ?_ _ | with_reducible refine Below.setCell ?_ (by first | omega | (simp; done) | (simp; omega)) _ | with_reducible refine Below.alloc ?_ (by first | omega | (simp; done) | (simp; omega) | (simp [World.setCell]; omega)) _))⟩
              · go_wp2
                have d2 := (t1.set2 (.int .u64 0) (.int .u64 0)).two
                exact bodyPost_ret (v := partV ((0, 0), false)) (by simp only [results, Try.f15, partV]; simp [go_sem, d2]) rfl ⟨by rw [hres.out]; rfl, (by repeat (first | with_reducible assumption | with_reducible exact Below.refl _ _ | with_reducible refine Below.drew ?_ | with_reducible refine Below.drewN ?_ _ | with_reducible refine Below.setCell ?_ (by first | omega | (simp; done) | (simp; omega)) _ | with_reducible refine Below.alloc ?_ (by first | omega | (simp; done) | (simp; omega) | (simp [World.setCell]; omega)) _))⟩
      · obtain ⟨r, hr⟩ : ∃ r, (Utf8.decode s k).1 = r := ⟨_, rfl⟩
        have hr1 := (decode_high s k hlt (by omega)).1
        have hr2 := decode_le s k
        obtain ⟨W2, hW2⟩ : ∃ W2, wr.iterAt (B + 2) s (k + (Utf8.decode s k).2) = W2 := ⟨_, rfl⟩
        have hnx := Lib.run_next_any_at (P := Try.prog) wr (B + 2) s k 0 hit hlt
        rw [hW2, hr] at hnx
        rw [hr] at hr1 hr2
        have t1 : At W2 B #[.int .u64 0, .int .u64 0] 24 := by rw [← hW2]; exact (Lib.iterAt_other wr (B + 2) B s _ (by omega)).trans b1
        have hB2 : Below w.heap.size w W2 := by rw [← hW2]; exact Lib.below_iterAt hB (by omega) s _
        have f1 := t1.two
        have hB3 : Below B w W2 := by rw [← hBe]; exact hB2
        have HF3 := HF2.out.trans (readF_none (by omega) (by omega) (by omega))
        subst HF3
        have hres := Lib.hid hR.out.1
        clear hR HF2 hW2 hr hit b1 b2 hB
        have z1 : (57 : Int) < r := by omega
        have z2 : ((r : Int) == 47) = false := beq_eq_false_iff_ne.2 (by omega)
        have z3 : ((r : Int) == 37) = false := beq_eq_false_iff_ne.2 (by omega)
        go_wp2
        have d2 := (t1.set2 (.int .u64 0) (.int .u64 0)).two
        exact bodyPost_ret (v := partV ((0, 0), false)) (by simp only [results, Try.f15, partV]; simp [go_sem, d2]) rfl ⟨by rw [hres.out]; rfl, (by repeat (first | with_reducible assumption | with_reducible exact Below.refl _ _ | with_reducible refine Below.drew ?_ | with_reducible refine Below.drewN ?_ _ | with_reducible refine Below.setCell ?_ (by first | omega | (simp; done) | (simp; omega)) _ | with_reducible refine Below.alloc ?_ (by first | omega | (simp; done) | (simp; omega) | (simp [World.setCell]; omega)) _))⟩
    · have hnx := Lib.run_next_end_at (P := Try.prog) wr (B + 2) s k 0 hit hlt
      have HF2 := HF.out
      rw [List.drop_of_length_le (by rw [bytesN_length]; omega), readF] at HF2
      subst HF2
      have hres := Lib.hid hR.out.1
      have f1 := b1.two
      have f2 := b2.two
      have hB3 : Below B w wr := by rw [← hBe]; exact hB
      have t1 := b1.alloc (.cells #[.int .u64 n0, .int .u64 n1] 24)
      have l1 := b1.lt
      clear hR HF hit b2
      by_cases y1 : at' = 0
      · subst y1
        have hE : Hid (readEnd (some (n0, n1, 0, dig)) = ((0, 0), false)) := by show _ = _; simp only [readEnd, true_or, if_true]
        go_wp2
        have d2 := ((b1.set2 (.int .u64 0) (.int .u64 0)).alloc (.cells #[.int .u64 n0, .int .u64 n1] 24)).two
        exact bodyPost_ret (v := partV ((0, 0), false)) (by simp only [results, Try.f15, partV]; simp [go_sem, d2]) rfl ⟨by rw [hres.out, hE.out], (by repeat (first | with_reducible assumption | with_reducible exact Below.refl _ _ | with_reducible refine Below.drew ?_ | with_reducible refine Below.drewN ?_ _ | with_reducible refine Below.setCell ?_ (by first | omega | (simp; done) | (simp; omega)) _ | with_reducible refine Below.alloc ?_ (by first | omega | (simp; done) | (simp; omega) | (simp [World.setCell]; omega)) _))⟩
      · obtain rfl : at' = 1 := by omega
        by_cases y2 : dig = 0
        · subst y2
          have hE : Hid (readEnd (some (n0, n1, 1, 0)) = ((0, 0), false)) := by show _ = _; simp only [readEnd, true_or, or_true, if_true]
          go_wp2
          have d2 := ((b1.set2 (.int .u64 0) (.int .u64 0)).alloc (.cells #[.int .u64 n0, .int .u64 n1] 24)).two
          exact bodyPost_ret (v := partV ((0, 0), false)) (by simp only [results, Try.f15, partV]; simp [go_sem, d2]) rfl ⟨by rw [hres.out, hE.out], (by repeat (first | with_reducible assumption | with_reducible exact Below.refl _ _ | with_reducible refine Below.drew ?_ | with_reducible refine Below.drewN ?_ _ | with_reducible refine Below.setCell ?_ (by first | omega | (simp; done) | (simp; omega)) _ | with_reducible refine Below.alloc ?_ (by first | omega | (simp; done) | (simp; omega) | (simp [World.setCell]; omega)) _))⟩
        · have y3 : ((dig : Int) == 0) = false := beq_eq_false_iff_ne.2 (by omega)
          go_wp2_with fail
          refine (sgood_any n0 n1 _ p0 p1 p2 p3).mono ?_
          rintro e w5 ⟨rfl, hb⟩
          have s3 : At w5 wr.heap.size #[.int .u64 n0, .int .u64 n1] 24 := At.below (At.new' _ _ _ rfl) hb
          have t2 := t1.below hb
          have hB4 : Below B w w5 := Below.trans (by repeat (first | with_reducible assumption | with_reducible exact Below.refl _ _ | with_reducible refine Below.drew ?_ | with_reducible refine Below.drewN ?_ _ | with_reducible refine Below.setCell ?_ (by first | omega | (simp; done) | (simp; omega)) _ | with_reducible refine Below.alloc ?_ (by first | omega | (simp; done) | (simp; omega) | (simp [World.setCell]; omega)) _)) (hb.mono (by first | omega | (simp; done) | (simp; omega) | (simp [World.setCell]; omega)))
          have hB5 : Below w.heap.size w w5 := by rw [hBe]; exact hB4
          have f3 := s3.two
          have f4 := t2.two
          have l4 := t2.lt
          clear hb
          cases hg : goodF n0 n1
          · have hE : Hid (readEnd (some (n0, n1, 1, dig)) = ((0, 0), false)) := by show _ = _; simp only [readEnd, hg, or_true, if_true]
            go_wp2
            have d2 := (t2.set2 (.int .u64 0) (.int .u64 0)).two
            exact bodyPost_ret (v := partV ((0, 0), false)) (by simp only [results, Try.f15, partV]; simp [go_sem, d2]) rfl ⟨by rw [hres.out, hE.out], (by repeat (first | with_reducible assumption | with_reducible exact Below.refl _ _ | with_reducible refine Below.drew ?_ | with_reducible refine Below.drewN ?_ _ | with_reducible refine Below.setCell ?_ (by first | omega | (simp; done) | (simp; omega)) _ | with_reducible refine Below.alloc ?_ (by first | omega | (simp; done) | (simp; omega) | (simp [World.setCell]; omega)) _))⟩
          · have hE : Hid (readEnd (some (n0, n1, 1, dig)) = ((n0, n1), true)) := by show (if (1 : Nat) = 0 ∨ dig = 0 ∨ goodF n0 n1 = false then ((0, 0), false) else ((n0, n1), true)) = ((n0, n1), true); rw [if_neg (by rw [hg]; simp; omega)]
            go_wp2
            have d2 := (t2.set2 (.int .u64 n0) (.int .u64 n1)).two
            exact bodyPost_ret (v := partV ((n0, n1), true)) (by simp only [results, Try.f15, partV]; simp [go_sem, d2]) rfl ⟨by rw [hres.out, hE.out], (by repeat (first | with_reducible assumption | with_reducible exact Below.refl _ _ | with_reducible refine Below.drew ?_ | with_reducible refine Below.drewN ?_ _ | with_reducible refine Below.setCell ?_ (by first | omega | (simp; done) | (simp; omega)) _ | with_reducible refine Below.alloc ?_ (by first | omega | (simp; done) | (simp; omega) | (simp [World.setCell]; omega)) _))⟩

set_option maxRecDepth 100000 in
set_option maxHeartbeats 4000000 in
theorem read_any (s : ByteArray) (w : World) (hs : s.size ≤ 9223372036854775807) :
    Calls Try.prog 15 #[.string s] w fun e w' => e = .returned (partV (readV s)) ∧ Below w.heap.size w w' := by
  by_cases e1 : s = sLeast
  · rw [show readV s = ((0, 1), true) by unfold readV; rw [if_pos e1]]
    subst e1
    unfold sLeast
    go_enter Try.func15, Try.ntmps15
    go_wp2
    have d2 := (At.new w #[.int .u64 0, .int .u64 1] 24).two
    refine bodyPost_ret (v := partV ((0, 1), true)) (by simp only [results, Try.f15, partV]; simp [go_sem]) rfl ⟨rfl, (by repeat (first | with_reducible assumption | with_reducible exact Below.refl _ _ | with_reducible refine Below.drew ?_ | with_reducible refine Below.drewN ?_ _ | with_reducible refine Below.setCell ?_ (by first | omega | (simp; done) | (simp; omega)) _ | with_reducible refine Below.alloc ?_ (by first | omega | (simp; done) | (simp; omega) | (simp [World.setCell]; omega)) _))⟩
  have g1 : (s.toList == [108, 101, 97, 115, 116]) = false := ne_text e1
  by_cases e2 : s = sQuarter
  · rw [show readV s = ((1, 4), true) by unfold readV; rw [if_neg e1, if_pos e2]]
    clear g1 e1
    subst e2
    unfold sQuarter
    go_enter Try.func15, Try.ntmps15
    go_wp2
    refine bodyPost_ret (v := partV ((1, 4), true)) (by simp only [results, Try.f15, partV]; simp [go_sem]) rfl ⟨rfl, (by repeat (first | with_reducible assumption | with_reducible exact Below.refl _ _ | with_reducible refine Below.drew ?_ | with_reducible refine Below.drewN ?_ _ | with_reducible refine Below.setCell ?_ (by first | omega | (simp; done) | (simp; omega)) _ | with_reducible refine Below.alloc ?_ (by first | omega | (simp; done) | (simp; omega) | (simp [World.setCell]; omega)) _))⟩
  have g2 : (s.toList == [113, 117, 97, 114, 116, 101, 114]) = false := ne_text e2
  by_cases e3 : s = sHalf
  · rw [show readV s = ((1, 2), true) by unfold readV; rw [if_neg e1, if_neg e2, if_pos e3]]
    clear g1 e1 g2 e2
    subst e3
    unfold sHalf
    go_enter Try.func15, Try.ntmps15
    go_wp2
    refine bodyPost_ret (v := partV ((1, 2), true)) (by simp only [results, Try.f15, partV]; simp [go_sem]) rfl ⟨rfl, (by repeat (first | with_reducible assumption | with_reducible exact Below.refl _ _ | with_reducible refine Below.drew ?_ | with_reducible refine Below.drewN ?_ _ | with_reducible refine Below.setCell ?_ (by first | omega | (simp; done) | (simp; omega)) _ | with_reducible refine Below.alloc ?_ (by first | omega | (simp; done) | (simp; omega) | (simp [World.setCell]; omega)) _))⟩
  have g3 : (s.toList == [104, 97, 108, 102]) = false := ne_text e3
  by_cases e4 : s = sMost
  · rw [show readV s = ((1, 1), true) by unfold readV; rw [if_neg e1, if_neg e2, if_neg e3, if_pos e4]]
    clear g1 e1 g2 e2 g3 e3
    subst e4
    unfold sMost
    go_enter Try.func15, Try.ntmps15
    go_wp2
    refine bodyPost_ret (v := partV ((1, 1), true)) (by simp only [results, Try.f15, partV]; simp [go_sem]) rfl ⟨rfl, (by repeat (first | with_reducible assumption | with_reducible exact Below.refl _ _ | with_reducible refine Below.drew ?_ | with_reducible refine Below.drewN ?_ _ | with_reducible refine Below.setCell ?_ (by first | omega | (simp; done) | (simp; omega)) _ | with_reducible refine Below.alloc ?_ (by first | omega | (simp; done) | (simp; omega) | (simp [World.setCell]; omega)) _))⟩
  have g4 : (s.toList == [109, 111, 115, 116]) = false := ne_text e4
  rw [show readV s = readEnd (readF 0 0 0 0 (bytesN s)) by unfold readV; rw [if_neg e1, if_neg e2, if_neg e3, if_neg e4]]
  exact read_else s w hs g1 g2 g3 g4
end Go.Proofs.Ytadnnpjnmfddmaa

