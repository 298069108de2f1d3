/- Contract of the document's Read. -/
import Derived.Test.YtadnnpjnmfddmaaProg
import Derived.Test.YtadnnpjnmfddmaaNumber
namespace Go.Proofs.Ytadnnpjnmfddmaa
open Go.RowKit

theorem refEnd_ok {p : Int × Int} (h : goodF p.1 p.2 = true) : refEnd (p, true) = (p, true) := by
  unfold refEnd
  rw [if_neg (by rintro (h' | h') <;> simp_all)]
theorem refEnd_no {p : Int × Int} (h : goodF p.1 p.2 = false) : refEnd (p, true) = ((0, 0), false) := by
  unfold refEnd
  rw [if_pos (.inr h)]
theorem eq_text {s t : ByteArray} {l : List UInt8} (h : s = t) (ht : t.toList = l) : (s.toList == l) = true := by rw [h, ht]; simp
theorem At.set4 {w : World} {b : Nat} {T : TypeId} {u0 u1 u2 u3 : Value} (h : At w b #[u0, u1, u2, u3] T) (x0 x1 x2 x3 : Value) :
    At ((((w.setCell ⟨b, 0, none⟩ x0).setCell ⟨b, 1, none⟩ x1).setCell ⟨b, 2, none⟩ x2).setCell ⟨b, 3, none⟩ x3) b #[x0, x1, x2, x3] T := (((h.set_same 0 x0).set_same 1 x1).set_same 2 x2).set_same 3 x3

/-- Names that a text is none of. -/
def NoName (s : ByteArray) (k : Nat) : Prop := (0 < k → s ≠ sLeast) ∧ (1 < k → s ≠ sQuarter) ∧ (2 < k → s ≠ sHalf) ∧ (3 < k → s ≠ sMost)
theorem NoName.all {s : ByteArray} (h : NoName s 4) : readV s = refEnd (refP2 (bytesN s)) := by
  obtain ⟨a, b, c, d⟩ := h
  unfold readV
  rw [if_neg (a (by omega)), if_neg (b (by omega)), if_neg (c (by omega)), if_neg (d (by omega)), read_eq]

theorem numD_bd : ∀ (l : List Nat) (n : Int), 0 ≤ n → n < 18446744073709551616 → ∀ m, numD n l = some m → 0 ≤ m ∧ m < 18446744073709551616 := by
  intro l
  induction l with
  | nil => intro n h1 h2 m h; rw [numD] at h; cases h; exact ⟨h1, h2⟩
  | cons c l ih =>
    intro n h1 h2 m h
    rw [numD] at h
    split at h
    · cases h
    · exact ih _ (by omega) (by omega) m h
theorem numberF_bd (l : List Nat) : 0 ≤ (numberF l).1 ∧ (numberF l).1 < 18446744073709551616 := by
  rw [numberF_def]
  split
  · exact ⟨by decide, by decide⟩
  · cases h : numD 0 l with
    | none => exact ⟨by decide, by decide⟩
    | some m => exact numD_bd l 0 (by omega) (by omega) m h

set_option maxRecDepth 100000 in
set_option maxHeartbeats 4000000 in
theorem rread_any (s : ByteArray) (w : World) (hs : s.size ≤ 9223372036854775807) :
    Calls Try.prog 16 #[.string s] w fun e w' => e = .returned (partV (readV s)) ∧ Below w.heap.size w w' := by
  have hl := Lib.hid (bytesN_length s)
  obtain ⟨V, hV⟩ : ∃ V, Hid (readV s = V) := ⟨_, rfl⟩
  rw [hV.out]
  go_enter Try.func16, Try.ntmps16
  go_upto_block 0 with fail
  obtain ⟨B, hBe⟩ : ∃ B, w.heap.size = B := ⟨_, rfl⟩
  refine gen_world (fun W => (At W B #[.int .u64 0, .int .u64 0] 24 ∧ At W (B + 1) #[.string { data := #[108, 101, 97, 115, 116] }, .string { data := #[113, 117, 97, 114, 116, 101, 114] }, .string { data := #[104, 97, 108, 102] }, .string { data := #[109, 111, 115, 116] }] 53 ∧ At W (B + 2) #[.int .u64 0, .int .u64 1, .int .u64 1, .int .u64 4, .int .u64 1, .int .u64 2, .int .u64 1, .int .u64 1] 54) ∧ Below w.heap.size w W ∧ W.heap.size = B + 3) ?_ ?_
  · subst hBe
    exact ⟨⟨((At.new' _ _ _ rfl).alloc _).alloc _, (At.new' _ _ _ (by simp)).alloc _, At.new' _ _ _ (by simp)⟩, (by repeat (first | with_reducible assumption | with_reducible exact Below.refl _ _ | with_reducible refine Below.drew ?_ | with_reducible refine Below.drewN ?_ _ | with_reducible refine Below.setCell ?_ (by first | omega | (simp; done) | (simp; omega)) _ | with_reducible refine Below.alloc ?_ (by first | omega | (simp; done) | (simp; omega) | (simp [World.setCell]; omega)) _)), by simp⟩
  rintro W ⟨⟨a1, a2, a3⟩, hB0, hz⟩
  simp only [hBe, Nat.add_assoc, Nat.reduceAdd]
  have hB3 : Below B w W := by rw [← hBe]; exact hB0
  have b1 := a1
  have n0 := a2.cell (i := 0) rfl
  have n1 := a2.cell (i := 1) rfl
  have n2 := a2.cell (i := 2) rfl
  have n3 := a2.cell (i := 3) rfl
  have m0 := a3.cell (i := 0) rfl
  have m1 := a3.cell (i := 1) rfl
  have m2 := a3.cell (i := 2) rfl
  have m3 := a3.cell (i := 3) rfl
  have m4 := a3.cell (i := 4) rfl
  have m5 := a3.cell (i := 5) rfl
  have m6 := a3.cell (i := 6) rfl
  have m7 := a3.cell (i := 7) rfl
  have f1 := a1.two
  go_wp2_with fail
  go_loop [22] (fun i => ∃ k : Nat, k ≤ 4 ∧ i = .int .i64 k ∧ Hid (NoName s k)) (fun i => 4 - (intOf i).toNat)
  case atStart => exact ⟨0, by omega, rfl, by show NoName s 0; unfold NoName; omega⟩
  case round =>
    obtain ⟨k, hk, rfl, HN⟩ := hrel
    rcases (show k = 0 ∨ k = 1 ∨ k = 2 ∨ k = 3 ∨ k = 4 by omega) with rfl | rfl | rfl | rfl | rfl
    · by_cases e : s = sLeast
      · have g := eq_text (l := [108, 101, 97, 115, 116]) e (by rw [ByteArray.toList_eq]; rfl)
        have hR : Hid (V = ((0, 1), true)) := by show _ = _; rw [← hV.out, e]; decide
        clear e
        go_wp2
        have d2 := (b1.set2 (.int .u64 0) (.int .u64 1)).two
        exact bodyPost_ret (v := partV ((0, 1), true)) (by simp only [results, Try.f16, partV]; simp [go_sem, d2]) rfl ⟨by rw [hR.out], (by repeat (first | with_reducible assumption | with_reducible exact Below.refl _ _ | with_reducible refine Below.drew ?_ | with_reducible refine Below.drewN ?_ _ | with_reducible refine Below.setCell ?_ (by first | omega | (simp; done) | (simp; omega)) _ | with_reducible refine Below.alloc ?_ (by first | omega | (simp; done) | (simp; omega) | (simp [World.setCell]; omega)) _))⟩
      · have g : (s.toList == [108, 101, 97, 115, 116]) = false := ne_text e
        replace HN : Hid (NoName s 1) := by
          obtain ⟨x1, x2, x3, x4⟩ := HN.out
          exact ⟨fun _ => e, fun h => by omega, fun h => by omega, fun h => by omega⟩
        clear e
        go_wp2
        go_round
        case rel => exact ⟨1, by omega, rfl, HN⟩
        case measure => simp [intOf]
    · by_cases e : s = sQuarter
      · have g := eq_text (l := [113, 117, 97, 114, 116, 101, 114]) e (by rw [ByteArray.toList_eq]; rfl)
        have hR : Hid (V = ((1, 4), true)) := by show _ = _; rw [← hV.out, e]; decide
        clear e
        go_wp2
        have d2 := (b1.set2 (.int .u64 1) (.int .u64 4)).two
        exact bodyPost_ret (v := partV ((1, 4), true)) (by simp only [results, Try.f16, partV]; simp [go_sem, d2]) rfl ⟨by rw [hR.out], (by repeat (first | with_reducible assumption | with_reducible exact Below.refl _ _ | with_reducible refine Below.drew ?_ | with_reducible refine Below.drewN ?_ _ | with_reducible refine Below.setCell ?_ (by first | omega | (simp; done) | (simp; omega)) _ | with_reducible refine Below.alloc ?_ (by first | omega | (simp; done) | (simp; omega) | (simp [World.setCell]; omega)) _))⟩
      · have g : (s.toList == [113, 117, 97, 114, 116, 101, 114]) = false := ne_text e
        replace HN : Hid (NoName s 2) := by
          obtain ⟨x1, x2, x3, x4⟩ := HN.out
          exact ⟨fun _ => x1 (by omega), fun _ => e, fun h => by omega, fun h => by omega⟩
        clear e
        go_wp2
        go_round
        case rel => exact ⟨2, by omega, rfl, HN⟩
        case measure => simp [intOf]
    · by_cases e : s = sHalf
      · have g := eq_text (l := [104, 97, 108, 102]) e (by rw [ByteArray.toList_eq]; rfl)
        have hR : Hid (V = ((1, 2), true)) := by show _ = _; rw [← hV.out, e]; decide
        clear e
        go_wp2
        have d2 := (b1.set2 (.int .u64 1) (.int .u64 2)).two
        exact bodyPost_ret (v := partV ((1, 2), true)) (by simp only [results, Try.f16, partV]; simp [go_sem, d2]) rfl ⟨by rw [hR.out], (by repeat (first | with_reducible assumption | with_reducible exact Below.refl _ _ | with_reducible refine Below.drew ?_ | with_reducible refine Below.drewN ?_ _ | with_reducible refine Below.setCell ?_ (by first | omega | (simp; done) | (simp; omega)) _ | with_reducible refine Below.alloc ?_ (by first | omega | (simp; done) | (simp; omega) | (simp [World.setCell]; omega)) _))⟩
      · have g : (s.toList == [104, 97, 108, 102]) = false := ne_text e
        replace HN : Hid (NoName s 3) := by
          obtain ⟨x1, x2, x3, x4⟩ := HN.out
          exact ⟨fun _ => x1 (by omega), fun _ => x2 (by omega), fun _ => e, fun h => by omega⟩
        clear e
        go_wp2
        go_round
        case rel => exact ⟨3, by omega, rfl, HN⟩
        case measure => simp [intOf]
    · by_cases e : s = sMost
      · have g := eq_text (l := [109, 111, 115, 116]) e (by rw [ByteArray.toList_eq]; rfl)
        have hR : Hid (V = ((1, 1), true)) := by show _ = _; rw [← hV.out, e]; decide
        clear e
        go_wp2
        have d2 := (b1.set2 (.int .u64 1) (.int .u64 1)).two
        exact bodyPost_ret (v := partV ((1, 1), true)) (by simp only [results, Try.f16, partV]; simp [go_sem, d2]) rfl ⟨by rw [hR.out], (by repeat (first | with_reducible assumption | with_reducible exact Below.refl _ _ | with_reducible refine Below.drew ?_ | with_reducible refine Below.drewN ?_ _ | with_reducible refine Below.setCell ?_ (by first | omega | (simp; done) | (simp; omega)) _ | with_reducible refine Below.alloc ?_ (by first | omega | (simp; done) | (simp; omega) | (simp [World.setCell]; omega)) _))⟩
      · have g : (s.toList == [109, 111, 115, 116]) = false := ne_text e
        replace HN : Hid (NoName s 4) := by
          obtain ⟨x1, x2, x3, x4⟩ := HN.out
          exact ⟨fun _ => x1 (by omega), fun _ => x2 (by omega), fun _ => x3 (by omega), fun _ => e⟩
        clear e
        go_wp2
        go_round
        case rel => exact ⟨4, by omega, rfl, HN⟩
        case measure => simp [intOf]
    · have HV : Hid (V = refEnd (refP2 (bytesN s))) := by show _ = _; rw [← hV.out]; exact HN.out.all
      clear hV HN a2 a3 n0 n1 n2 n3 m0 m1 m2 m3 m4 m5 m6 m7 b1
      go_upto_block 2 with fail
      refine gen_world (fun wc => (At wc B #[.int .u64 0, .int .u64 0] 24 ∧ At wc (B + 3) #[.int .u64 0, .int .u64 0] 24) ∧ Below B w wc) ?_ ?_
      · exact ⟨⟨a1.alloc _, At.new' _ _ _ hz.symm⟩, hB3.alloc (by omega) _⟩
      rintro W1 ⟨⟨t1, t2⟩, hB4⟩
      clear a1 f1 hB0 hB3 hz
      go_cut [8, 9, 10, 11, 12, 13] (fun ok i a x b y wc => ∃ (pa pb : Int) (okb : Bool), ok = .bool okb ∧ 0 ≤ pa ∧ pa < 18446744073709551616 ∧ 0 ≤ pb ∧ pb < 18446744073709551616 ∧ At wc B #[.int .u64 0, .int .u64 0] 24 ∧ At wc (B + 3) #[.int .u64 pa, .int .u64 pb] 24 ∧ Below B w wc ∧ Hid (refPair (bytesN s) = ((pa, pb), okb)))
      case first =>
        go_wp2_with fail
        go_loop [8, 9] (fun ok i => ∃ k : Nat, k ≤ s.size ∧ ok = .bool false ∧ i = .int .i64 k ∧ Hid (idx47 (bytesN s) = (idx47 ((bytesN s).drop k)).map (· + k))) (fun _ i => s.size - (intOf i).toNat)
        case atStart => exact ⟨0, by omega, rfl, rfl, by show _ = _; simp⟩
        case round =>
          obtain ⟨k, hk, rfl, rfl, HF⟩ := hrel
          by_cases hlt : k < s.size
          · obtain ⟨c, hc'⟩ : ∃ c, (s[k]'hlt).toNat = c := ⟨_, rfl⟩
            have hd := bytesN_drop s k hlt
            rw [hc'] at hd
            have HF2 : Hid (idx47 (bytesN s) = (idx47 (c :: (bytesN s).drop (k + 1))).map (· + k)) := by show _ = _; rw [← hd]; exact HF.out
            clear HF hd
            have hlt' : (k : Int) < s.size := by omega
            have hk0 : (0 : Int) ≤ k := by omega
            by_cases hc47 : c = 47
            · subst hc47
              have HI : Hid (refPair (bytesN s) = (((numberF ((bytesN s).take k)).1, (numberF ((bytesN s).drop (k + 1))).1), (numberF ((bytesN s).take k)).2 && (numberF ((bytesN s).drop (k + 1))).2)) := by
                show _ = _
                unfold refPair
                rw [HF2.out, idx47, if_pos rfl]
                simp
              clear HF2
              have v1 : IntKind.i64.wrap ((k : Int) + 1) = k + 1 := by simp only [IntKind.wrap_i64]; omega
              go_wp2_with fail
              refine (number_any (s.extract 0 k) _ (by have := extract_size s 0 k; omega)).mono ?_
              rintro e w5 ⟨rfl, rfl⟩
              rw [bytesN_take]
              obtain ⟨⟨n1, o1⟩, h1⟩ : ∃ r, numberF ((bytesN s).take k) = r := ⟨_, rfl⟩
              have g1 := numberF_bd ((bytesN s).take k)
              rw [h1] at HI g1 ⊢
              unfold numV
              dsimp only at HI g1 ⊢
              clear h1
              go_wp2_with fail
              refine (number_any (s.extract (k + 1) s.size) _ (by have := extract_size s (k + 1) s.size; omega)).mono ?_
              rintro e w5 ⟨rfl, rfl⟩
              rw [bytesN_from]
              obtain ⟨⟨n2, o2⟩, h2⟩ : ∃ r, numberF ((bytesN s).drop (k + 1)) = r := ⟨_, rfl⟩
              have g2 := numberF_bd ((bytesN s).drop (k + 1))
              rw [h2] at HI g2 ⊢
              unfold numV
              dsimp only at HI g2 ⊢
              clear h2
              have ff := t2.two
              cases o1
              · go_wp2
                go_meet
                case rel => exact ⟨n1, n2, false, rfl, g1.1, g1.2, g2.1, g2.2, (t1.set_other (by show B ≠ B + 3; omega) _).set_other (by show B ≠ B + 3; omega) _, t2.set2 _ _, by exact (by repeat (first | with_reducible assumption | with_reducible exact Below.refl _ _ | with_reducible refine Below.drew ?_ | with_reducible refine Below.drewN ?_ _ | with_reducible refine Below.setCell ?_ (by first | omega | (simp; done) | (simp; omega)) _ | with_reducible refine Below.alloc ?_ (by first | omega | (simp; done) | (simp; omega) | (simp [World.setCell]; omega)) _)), HI⟩
              · cases o2
                · go_wp2
                  go_meet
                  case rel => exact ⟨n1, n2, false, rfl, g1.1, g1.2, g2.1, g2.2, (t1.set_other (by show B ≠ B + 3; omega) _).set_other (by show B ≠ B + 3; omega) _, t2.set2 _ _, by exact (by repeat (first | with_reducible assumption | with_reducible exact Below.refl _ _ | with_reducible refine Below.drew ?_ | with_reducible refine Below.drewN ?_ _ | with_reducible refine Below.setCell ?_ (by first | omega | (simp; done) | (simp; omega)) _ | with_reducible refine Below.alloc ?_ (by first | omega | (simp; done) | (simp; omega) | (simp [World.setCell]; omega)) _)), HI⟩
                · go_wp2
                  go_meet
                  case rel => exact ⟨n1, n2, true, rfl, g1.1, g1.2, g2.1, g2.2, (t1.set_other (by show B ≠ B + 3; omega) _).set_other (by show B ≠ B + 3; omega) _, t2.set2 _ _, by exact (by repeat (first | with_reducible assumption | with_reducible exact Below.refl _ _ | with_reducible refine Below.drew ?_ | with_reducible refine Below.drewN ?_ _ | with_reducible refine Below.setCell ?_ (by first | omega | (simp; done) | (simp; omega)) _ | with_reducible refine Below.alloc ?_ (by first | omega | (simp; done) | (simp; omega) | (simp [World.setCell]; omega)) _)), HI⟩
            · have hc47' : ((c : Int) == 47) = false := beq_eq_false_iff_ne.2 (by omega)
              have HF3 : Hid (idx47 (bytesN s) = (idx47 ((bytesN s).drop (k + 1))).map (· + (k + 1))) := by
                show _ = _
                rw [HF2.out, idx47, if_neg hc47, Option.map_map]
                congr 1
                funext j
                show j + 1 + k = j + (k + 1)
                omega
              clear HF2
              have v1 : IntKind.i64.wrap ((k : Int) + 1) = k + 1 := by simp only [IntKind.wrap_i64]; omega
              go_wp2
              go_round
              case rel => exact ⟨k + 1, by omega, rfl, by go_num, HF3⟩
              case measure => simp [intOf]; omega
          · obtain rfl : k = s.size := by omega
            have HI : Hid (refPair (bytesN s) = ((0, 0), false)) := by
              show _ = _
              unfold refPair
              rw [HF.out, List.drop_of_length_le (by rw [hl.out]; omega)]
              rfl
            clear HF
            go_wp2
            go_meet
            case rel => exact ⟨0, 0, false, rfl, by omega, by omega, by omega, by omega, t1, t2, hB4, HI⟩
      case rest =>
        clear t1 t2 hB4
        obtain ⟨pa, pb, okb, rfl, p1, p2, p3, p4, t1, t2, hB4, HP⟩ := hcut
        have f2 := t2.two
        by_cases h0 : s.size = 0
        · have HQ : Hid (refP2 (bytesN s) = ((pa, pb), okb)) := by show _ = _; unfold refP2; rw [if_neg (by rw [hl.out]; omega), HP.out]
          have h0' : ¬ (0 : Int) < s.size := by omega
          clear HP
          have f2 := t2.two
          have f1 := t1.two
          have z1 := hB4.size
          have hBe' : w.heap.size ≤ B := by omega
          have hfin : Hid (∀ W', Below B w W' → Below w.heap.size w W') := fun W' h => by rw [hBe]; exact h
          clear hBe
          cases okb
          · have hE : Hid (V = ((0, 0), false)) := by show _ = _; rw [HV.out, HQ.out, refEnd_false rfl]
            go_wp2
            have d2 := (t1.set2 (.int .u64 0) (.int .u64 0)).two
            exact bodyPost_ret (v := partV ((0, 0), false)) (by simp only [results, Try.f16, partV]; simp [go_sem, d2]) rfl ⟨by rw [hE.out], hfin.out _ (by exact (by repeat (first | with_reducible assumption | with_reducible exact Below.refl _ _ | with_reducible refine Below.drew ?_ | with_reducible refine Below.drewN ?_ _ | with_reducible refine Below.setCell ?_ (by first | omega | (simp; done) | (simp; omega)) _ | with_reducible refine Below.alloc ?_ (by first | omega | (simp; done) | (simp; omega) | (simp [World.setCell]; omega)) _)))⟩
          · go_wp2_with fail
            refine (rgood_any pa pb _ p1 p2 p3 p4).mono ?_
            rintro e w5 ⟨rfl, hb⟩
            have hlz := t2.lt
            have t1' := t1.below hb
            have hB5 : Below B w w5 := hB4.trans (hb.mono (by omega))
            have t2' := t2.below hb
            have ff1 := t1'.two
            have ff2 := t2'.two
            clear hb f1 f2 t1 t2 hB4
            cases hg : goodF pa pb
            · have hE : Hid (V = ((0, 0), false)) := by show _ = _; rw [HV.out, HQ.out, refEnd_no hg]
              go_wp2
              have d2 := (t1'.set2 (.int .u64 0) (.int .u64 0)).two
              exact bodyPost_ret (v := partV ((0, 0), false)) (by simp only [results, Try.f16, partV]; simp [go_sem, d2]) rfl ⟨by rw [hE.out], hfin.out _ (by exact (by repeat (first | with_reducible assumption | with_reducible exact Below.refl _ _ | with_reducible refine Below.drew ?_ | with_reducible refine Below.drewN ?_ _ | with_reducible refine Below.setCell ?_ (by first | omega | (simp; done) | (simp; omega)) _ | with_reducible refine Below.alloc ?_ (by first | omega | (simp; done) | (simp; omega) | (simp [World.setCell]; omega)) _)))⟩
            · have hE : Hid (V = ((pa, pb), true)) := by show _ = _; rw [HV.out, HQ.out, refEnd_ok hg]
              go_wp2
              have d2 := (t1'.set2 (.int .u64 pa) (.int .u64 pb)).two
              exact bodyPost_ret (v := partV ((pa, pb), true)) (by simp only [results, Try.f16, partV]; simp [go_sem, d2]) rfl ⟨by rw [hE.out], hfin.out _ (by exact (by repeat (first | with_reducible assumption | with_reducible exact Below.refl _ _ | with_reducible refine Below.drew ?_ | with_reducible refine Below.drewN ?_ _ | with_reducible refine Below.setCell ?_ (by first | omega | (simp; done) | (simp; omega)) _ | with_reducible refine Below.alloc ?_ (by first | omega | (simp; done) | (simp; omega) | (simp [World.setCell]; omega)) _)))⟩
        · obtain ⟨m, hm⟩ : ∃ m, s.size = m + 1 := ⟨s.size - 1, by omega⟩
          have hmlt : m < s.size := by omega
          have hat := bytesN_at s m hmlt
          obtain ⟨c, hc'⟩ : ∃ c, (s[m]'hmlt).toNat = c := ⟨_, rfl⟩
          rw [hc'] at hat
          have HR : Hid (refP2 (bytesN s) = if c = 37 then (((numberF ((bytesN s).take m)).1, 100), (numberF ((bytesN s).take m)).2) else refPair (bytesN s)) := by
            show _ = _
            unfold refP2
            rw [hl.out, hm, Nat.add_sub_cancel, hat]
            by_cases hc : c = 37
            · rw [if_pos ⟨by omega, hc⟩, if_pos hc]
            · rw [if_neg (fun h => hc h.2), if_neg hc]
          have h0' : (0 : Int) < s.size := by omega
          have v1 : IntKind.i64.wrap ((s.size : Int) - 1) = m := by simp only [IntKind.wrap_i64]; omega
          have h1' : (m : Int) < s.size := by omega
          have h2' : (m : Int) ≤ s.size := by omega
          have h3' : (0 : Int) ≤ m := by omega
          clear hat hm
          by_cases hc : c = 37
          · subst hc
            have HQ := HR.out
            rw [if_pos rfl] at HQ
            replace HQ := Lib.hid HQ
            clear HR HP
            go_wp2_with fail
            refine (number_any (s.extract 0 m) _ (by have := extract_size s 0 m; omega)).mono ?_
            rintro e w5 ⟨rfl, rfl⟩
            rw [bytesN_take]
            obtain ⟨⟨n1, o1⟩, e1⟩ : ∃ r, numberF ((bytesN s).take m) = r := ⟨_, rfl⟩
            have g1 := numberF_bd ((bytesN s).take m)
            rw [e1] at HQ g1 ⊢
            unfold numV
            dsimp only at HQ g1 ⊢
            clear e1
            go_upto_region 23 with fail
            obtain ⟨t1, t2, hB4⟩ : At ((wc.setCell ⟨B + 3, 0, none⟩ (.int .u64 n1)).setCell ⟨B + 3, 1, none⟩ (.int .u64 100)) B #[.int .u64 0, .int .u64 0] 24 ∧ At ((wc.setCell ⟨B + 3, 0, none⟩ (.int .u64 n1)).setCell ⟨B + 3, 1, none⟩ (.int .u64 100)) (B + 3) #[.int .u64 n1, .int .u64 100] 24 ∧ Below B w ((wc.setCell ⟨B + 3, 0, none⟩ (.int .u64 n1)).setCell ⟨B + 3, 1, none⟩ (.int .u64 100)) := ⟨(t1.set_other (by show B ≠ B + 3; omega) _).set_other (by show B ≠ B + 3; omega) _, t2.set2 _ _, by exact (by repeat (first | with_reducible assumption | with_reducible exact Below.refl _ _ | with_reducible refine Below.drew ?_ | with_reducible refine Below.drewN ?_ _ | with_reducible refine Below.setCell ?_ (by first | omega | (simp; done) | (simp; omega)) _ | with_reducible refine Below.alloc ?_ (by first | omega | (simp; done) | (simp; omega) | (simp [World.setCell]; omega)) _))⟩
            generalize (wc.setCell ⟨B + 3, 0, none⟩ (.int .u64 n1)).setCell ⟨B + 3, 1, none⟩ (.int .u64 100) = w6 at t1 t2 hB4 ⊢
            clear f2
            have f2 := t2.two
            have f1 := t1.two
            have z1 := hB4.size
            have hBe' : w.heap.size ≤ B := by omega
            have hfin : Hid (∀ W', Below B w W' → Below w.heap.size w W') := fun W' h => by rw [hBe]; exact h
            clear hBe
            cases o1
            · have hE : Hid (V = ((0, 0), false)) := by show _ = _; rw [HV.out, HQ.out, refEnd_false rfl]
              go_wp2
              have d2 := (t1.set2 (.int .u64 0) (.int .u64 0)).two
              exact bodyPost_ret (v := partV ((0, 0), false)) (by simp only [results, Try.f16, partV]; simp [go_sem, d2]) rfl ⟨by rw [hE.out], hfin.out _ (by exact (by repeat (first | with_reducible assumption | with_reducible exact Below.refl _ _ | with_reducible refine Below.drew ?_ | with_reducible refine Below.drewN ?_ _ | with_reducible refine Below.setCell ?_ (by first | omega | (simp; done) | (simp; omega)) _ | with_reducible refine Below.alloc ?_ (by first | omega | (simp; done) | (simp; omega) | (simp [World.setCell]; omega)) _)))⟩
            · go_wp2_with fail
              refine (rgood_any n1 100 _ g1.1 g1.2 (by omega) (by omega)).mono ?_
              rintro e w5 ⟨rfl, hb⟩
              have hlz := t2.lt
              have t1' := t1.below hb
              have hB5 : Below B w w5 := hB4.trans (hb.mono (by omega))
              have t2' := t2.below hb
              have ff1 := t1'.two
              have ff2 := t2'.two
              clear hb f1 f2 t1 t2 hB4
              cases hg : goodF n1 100
              · have hE : Hid (V = ((0, 0), false)) := by show _ = _; rw [HV.out, HQ.out, refEnd_no hg]
                go_wp2
                have d2 := (t1'.set2 (.int .u64 0) (.int .u64 0)).two
                exact bodyPost_ret (v := partV ((0, 0), false)) (by simp only [results, Try.f16, partV]; simp [go_sem, d2]) rfl ⟨by rw [hE.out], hfin.out _ (by exact (by repeat (first | with_reducible assumption | with_reducible exact Below.refl _ _ | with_reducible refine Below.drew ?_ | with_reducible refine Below.drewN ?_ _ | with_reducible refine Below.setCell ?_ (by first | omega | (simp; done) | (simp; omega)) _ | with_reducible refine Below.alloc ?_ (by first | omega | (simp; done) | (simp; omega) | (simp [World.setCell]; omega)) _)))⟩
              · have hE : Hid (V = ((n1, 100), true)) := by show _ = _; rw [HV.out, HQ.out, refEnd_ok hg]
                go_wp2
                have d2 := (t1'.set2 (.int .u64 n1) (.int .u64 100)).two
                exact bodyPost_ret (v := partV ((n1, 100), true)) (by simp only [results, Try.f16, partV]; simp [go_sem, d2]) rfl ⟨by rw [hE.out], hfin.out _ (by exact (by repeat (first | with_reducible assumption | with_reducible exact Below.refl _ _ | with_reducible refine Below.drew ?_ | with_reducible refine Below.drewN ?_ _ | with_reducible refine Below.setCell ?_ (by first | omega | (simp; done) | (simp; omega)) _ | with_reducible refine Below.alloc ?_ (by first | omega | (simp; done) | (simp; omega) | (simp [World.setCell]; omega)) _)))⟩
          · have hcx : ((c : Int) == 37) = false := beq_eq_false_iff_ne.2 (by omega)
            have HQ : Hid (refP2 (bytesN s) = ((pa, pb), okb)) := by show _ = _; rw [HR.out, if_neg hc, HP.out]
            clear HP HR
            have f2 := t2.two
            have f1 := t1.two
            have z1 := hB4.size
            have hBe' : w.heap.size ≤ B := by omega
            have hfin : Hid (∀ W', Below B w W' → Below w.heap.size w W') := fun W' h => by rw [hBe]; exact h
            clear hBe
            cases okb
            · have hE : Hid (V = ((0, 0), false)) := by show _ = _; rw [HV.out, HQ.out, refEnd_false rfl]
              go_wp2
              have d2 := (t1.set2 (.int .u64 0) (.int .u64 0)).two
              exact bodyPost_ret (v := partV ((0, 0), false)) (by simp only [results, Try.f16, partV]; simp [go_sem, d2]) rfl ⟨by rw [hE.out], hfin.out _ (by exact (by repeat (first | with_reducible assumption | with_reducible exact Below.refl _ _ | with_reducible refine Below.drew ?_ | with_reducible refine Below.drewN ?_ _ | with_reducible refine Below.setCell ?_ (by first | omega | (simp; done) | (simp; omega)) _ | with_reducible refine Below.alloc ?_ (by first | omega | (simp; done) | (simp; omega) | (simp [World.setCell]; omega)) _)))⟩
            · go_wp2_with fail
              refine (rgood_any pa pb _ p1 p2 p3 p4).mono ?_
              rintro e w5 ⟨rfl, hb⟩
              have hlz := t2.lt
              have t1' := t1.below hb
              have hB5 : Below B w w5 := hB4.trans (hb.mono (by omega))
              have t2' := t2.below hb
              have ff1 := t1'.two
              have ff2 := t2'.two
              clear hb f1 f2 t1 t2 hB4
              cases hg : goodF pa pb
              · have hE : Hid (V = ((0, 0), false)) := by show _ = _; rw [HV.out, HQ.out, refEnd_no hg]
                go_wp2
                have d2 := (t1'.set2 (.int .u64 0) (.int .u64 0)).two
                exact bodyPost_ret (v := partV ((0, 0), false)) (by simp only [results, Try.f16, partV]; simp [go_sem, d2]) rfl ⟨by rw [hE.out], hfin.out _ (by exact (by repeat (first | with_reducible assumption | with_reducible exact Below.refl _ _ | with_reducible refine Below.drew ?_ | with_reducible refine Below.drewN ?_ _ | with_reducible refine Below.setCell ?_ (by first | omega | (simp; done) | (simp; omega)) _ | with_reducible refine Below.alloc ?_ (by first | omega | (simp; done) | (simp; omega) | (simp [World.setCell]; omega)) _)))⟩
              · have hE : Hid (V = ((pa, pb), true)) := by show _ = _; rw [HV.out, HQ.out, refEnd_ok hg]
                go_wp2
                have d2 := (t1'.set2 (.int .u64 pa) (.int .u64 pb)).two
                exact bodyPost_ret (v := partV ((pa, pb), true)) (by simp only [results, Try.f16, partV]; simp [go_sem, d2]) rfl ⟨by rw [hE.out], hfin.out _ (by exact (by repeat (first | with_reducible assumption | with_reducible exact Below.refl _ _ | with_reducible refine Below.drew ?_ | with_reducible refine Below.drewN ?_ _ | with_reducible refine Below.setCell ?_ (by first | omega | (simp; done) | (simp; omega)) _ | with_reducible refine Below.alloc ?_ (by first | omega | (simp; done) | (simp; omega) | (simp [World.setCell]; omega)) _)))⟩
end Go.Proofs.Ytadnnpjnmfddmaa

