/- Contract of package crate's Add. -/
import Derived.Test.YtogidoohgfmbfaaProg
import Derived.Test.YtogidoohgfmbfaaGrow
namespace Go.Proofs.Ytogidoohgfmbfaa
open Go.RowKit

/-- All blocks of the world lie as they lay, but those of a list. -/
structure Frame (S : List Nat) (w w' : World) : Prop where
  os : w'.os = w.os
  tape : w'.tape = w.tape
  output : w'.output = w.output
  size : w.heap.size ≤ w'.heap.size
  block : ∀ k, k < w.heap.size → k ∉ S → w'.heap[k]? = w.heap[k]?

theorem Frame.of_below {S : List Nat} {w w' : World} (h : Below w.heap.size w w') : Frame S w w' := ⟨h.os, h.tape, h.output, h.size, fun k hk _ => h.block k hk⟩
theorem Frame.of_touch {S : List Nat} {b : Nat} {w w' : World} (h : Touch b w w') (hb : b ∈ S) : Frame S w w' := ⟨h.os, h.tape, h.output, h.size, fun k hk hn => h.block k hk fun e => hn (e ▸ hb)⟩
theorem Frame.trans {S : List Nat} {w w1 w2 : World} (h : Frame S w w1) (k : Frame S w1 w2) : Frame S w w2 :=
  ⟨k.os.trans h.os, k.tape.trans h.tape, k.output.trans h.output, Nat.le_trans h.size k.size, fun i hi hn => (k.block i (Nat.lt_of_lt_of_le hi h.size) hn).trans (h.block i hi hn)⟩
theorem Frame.set (S : List Nat) (w : World) (b i : Nat) (v : Value) (hb : b ∈ S) : Frame S w (w.setCell ⟨b, i, none⟩ v) := .of_touch (Touch.set w b i v) hb
theorem Frame.at {S : List Nat} {b : Nat} {w w' : World} {cs : Array Value} {T : TypeId} (h : Frame S w w') (hs : At w b cs T) (hn : b ∉ S) : At w' b cs T := (h.block b hs.lt hn).trans hs
theorem Frame.drew {S : List Nat} {w w' : World} (h : Frame S w w') : Frame S w w'.drew := ⟨h.os, h.tape, h.output, h.size, h.block⟩
theorem Frame.drewN {S : List Nat} {w w' : World} (h : Frame S w w') (n : Nat) : Frame S w (w'.drewN n) := ⟨h.os, h.tape, h.output, h.size, h.block⟩
theorem Frame.refl (S : List Nat) (w : World) : Frame S w w := ⟨rfl, rfl, rfl, Nat.le_refl _, fun _ _ _ => rfl⟩
theorem Frame.setc {S : List Nat} {b : Nat} {w w' : World} (h : Frame S w w') (hb : b ∈ S ∨ w.heap.size ≤ b) (i : Nat) (v : Value) : Frame S w (w'.setCell ⟨b, i, none⟩ v) :=
  ⟨h.os, h.tape, h.output, by simpa [World.setCell] using h.size, fun k hk hn => (Below.heap_setCell w' _ v k (fun (e : k = b) => hb.elim (fun hb => hn (e ▸ hb)) (fun hb => absurd hk (by omega)))).trans (h.block k hk hn)⟩
theorem Frame.alloc {S : List Nat} {w w' : World} (h : Frame S w w') (o : Obj) : Frame S w (w'.alloc o) := h.trans (Frame.of_below ((Below.refl _ _).alloc (Nat.le_refl _) o))
/-- Where the blocks of the list are new, all lies as it lay. -/
theorem Frame.below {S : List Nat} {B : Nat} {w0 w w' : World} (hB : Below B w0 w) (hz : B ≤ w.heap.size) (h : Frame S w w') (hS : ∀ k ∈ S, B ≤ k) : Below B w0 w' :=
  hB.trans ⟨h.os, h.tape, h.output, h.size, fun k hk => h.block k (Nat.lt_of_lt_of_le hk hz) fun hm => absurd (hS k hm) (by omega)⟩

/-- A crate behind an addition: the first index; the counts. -/
def crF (f q : Int) (cs : List Int) : Int := if cs = [] then q else crLow f q
def crRow (f q : Int) (cs : List Int) : List Int := if cs = [] then [0] else crExt f cs q
def crAdd (f q c : Int) (cs : List Int) : List Int := (crRow f q cs).set (q - crF f q cs).toNat ((crRow f q cs).getD (q - crF f q cs).toNat 0 + c)
def crRoom (f q c tot : Int) (cs : List Int) : Prop := tot + c ≤ 9223372036854775807 ∧ (cs ≠ [] → crHigh f cs.length q - crLow f q < 4096)

theorem cradd_nil (w : World) (q c : Int) :
    Calls Try.prog 10 #[.pointer none, .int .i64 q, .int .u64 c] w fun e w' => e = .returned (.int .i64 2) ∧ w = w' := by
  go_enter Try.func10, Try.ntmps10
  go_wp2
  go_ret
  exact ⟨rfl, rfl⟩
theorem cradd_zero (w : World) (b : Nat) (q : Int) :
    Calls Try.prog 10 #[.pointer (some ⟨b, 0, none⟩), .int .i64 q, .int .u64 0] w fun e w' => e = .returned (.int .i64 1) ∧ w = w' := by
  go_enter Try.func10, Try.ntmps10
  go_wp2
  go_ret
  exact ⟨rfl, rfl⟩

theorem crExt_length (f q : Int) (cs : List Int) (n : Nat) (hn : cs.length = n) (h0 : 0 < n) : ((crExt f cs q).length : Int) = crHigh f n q - crLow f q + 1 := by
  subst hn
  unfold crExt crHigh crLow
  simp only [List.length_append, List.length_replicate]
  omega

theorem crRow_ne (f q : Int) (cs : List Int) : crRow f q cs ≠ [] := by
  unfold crRow
  split
  · simp
  · intro e
    have := congrArg List.length e
    simp [crExt] at this
    simp_all
theorem crRow_length (f q : Int) (cs : List Int) : ((crRow f q cs).length : Int) = if cs = [] then 1 else crHigh f cs.length q - crLow f q + 1 := by
  unfold crRow
  split
  · simp
  · exact crExt_length f q cs _ rfl (List.length_pos_iff.2 (by assumption))
theorem crF_le (f q : Int) (cs : List Int) : crF f q cs ≤ q ∧ q - crF f q cs < (crRow f q cs).length := by
  rw [crRow_length]
  unfold crF
  split
  · omega
  · unfold crHigh crLow; omega
theorem crRow_mem {f q : Int} {cs : List Int} {P : Int → Prop} (h0 : P 0) (h : ∀ c ∈ cs, P c) : ∀ c ∈ crRow f q cs, P c := by
  unfold crRow
  split
  · simpa using h0
  · intro c hc
    unfold crExt at hc
    simp only [List.mem_append, List.mem_replicate] at hc
    rcases hc with (⟨_, rfl⟩ | hc) | ⟨_, rfl⟩
    · exact h0
    · exact h _ hc
    · exact h0
theorem getD_mem {cs : List Int} {P : Int → Prop} (h : ∀ c ∈ cs, P c) {k : Nat} (hk : k < cs.length) : P (cs.getD k 0) := by
  rw [List.getD_eq_getElem?_getD, List.getElem?_eq_getElem hk]
  exact h _ (List.getElem_mem hk)

theorem grow_all (w : World) (b g : Nat) (f tot q : Int) (cs : List Int) (h : CrB w b g f cs tot) (ok : CrOk f cs tot) (hbg : b ≠ g) (hq0 : -9223372036854775808 ≤ q) (hq1 : q ≤ 9223372036854775807) :
    Calls Try.prog 24 #[.pointer (some ⟨b, 0, none⟩), .int .i64 q] w fun e w' =>
      (¬ (cs ≠ [] → crHigh f cs.length q - crLow f q < 4096) ∧ e = .returned (.bool false) ∧ Below w.heap.size w w') ∨
      ((cs ≠ [] → crHigh f cs.length q - crLow f q < 4096) ∧ e = .returned (.bool true) ∧ ∃ g', (g' = g ∨ w.heap.size ≤ g') ∧ CrB w' b g' (crF f q cs) (crRow f q cs) tot ∧ Touch b w w') := by
  by_cases hn : cs = []
  · subst hn
    refine (grow_new w b g f tot q h hq0 hq1).mono ?_
    rintro e w' ⟨rfl, g', hg', hC, hF⟩
    exact .inr ⟨by simp, rfl, g', .inr hg', hC, hF⟩
  · refine (grow_any w b g f tot q cs h ok hn hbg hq0 hq1).mono ?_
    rintro e w' (⟨hf, rfl, hb⟩ | ⟨hf, rfl, g', hg', hC, hF⟩)
    · exact .inl ⟨fun e => by have := e hn; omega, rfl, hb⟩
    · refine .inr ⟨fun _ => hf, rfl, g', hg', ?_, hF⟩
      rw [show crF f q cs = crLow f q from if_neg hn, show crRow f q cs = crExt f cs q from if_neg hn]
      exact hC

set_option maxHeartbeats 1000000 in
theorem cradd_any (w : World) (b g : Nat) (f tot q c : Int) (cs : List Int) (h : CrB w b g f cs tot) (ok : CrOk f cs tot) (hbg : b ≠ g) (hc0 : 0 < c) (hc1 : c < 18446744073709551616) (hq0 : -9223372036854775808 ≤ q) (hq1 : q ≤ 9223372036854775807) :
    Calls Try.prog 10 #[.pointer (some ⟨b, 0, none⟩), .int .i64 q, .int .u64 c] w fun e w' =>
      (¬ crRoom f q c tot cs ∧ e = .returned (.int .i64 6) ∧ Below w.heap.size w w') ∨
      (crRoom f q c tot cs ∧ e = .returned (.int .i64 0) ∧ ∃ g', (g' = g ∨ w.heap.size ≤ g') ∧ b ≠ g' ∧ CrB w' b g' (crF f q cs) (crAdd f q c cs) (tot + c) ∧ Frame [b, g] w w') := by
  have f1 : ∃ v, w.cell? ⟨b, 2, none⟩ = some (.int .u64 tot) ∧ w.cell? ⟨b, 1, none⟩ = some v := by have := h.1.three; exact ⟨_, this.2.2.1, this.2.1⟩
  obtain ⟨v1, f1, _⟩ := f1
  have l1 := h.1.lt
  have e1 : (c == 0) = false := beq_eq_false_iff_ne.2 (by omega)
  have o6 := ok.tot0
  have o7 := ok.tot1
  go_enter Try.func10, Try.ntmps10
  go_wp2_with fail
  refine (plus2_any w.heap.size tot c _ (by omega) (by omega) (by omega) (by omega) ((At.new' _ _ _ rfl).cell rfl) ((At.new' _ _ _ rfl).cell rfl)).mono ?_
  rintro e w1 ⟨rfl, rfl⟩
  by_cases hp : tot + c ≤ 9223372036854775807
  · obtain ⟨p1, p2⟩ := plus2_yes hp
    rw [p1, p2]
    clear p1 p2
    obtain ⟨T, hT⟩ : ∃ T, tot + c = T := ⟨_, rfl⟩
    rw [hT]
    clear f1
    have hB1 : Below w.heap.size w (w.alloc (.cells #[.int .u64 tot, .int .u64 c] 26)) := (by repeat (first | with_reducible assumption | with_reducible exact Below.refl _ _ | with_reducible refine Below.drew ?_ | with_reducible refine Below.drewN ?_ _ | with_reducible refine Below.setCell ?_ (by first | omega | (simp; done) | (simp; omega)) _ | with_reducible refine Below.alloc ?_ (by first | omega | (simp; done) | (simp; omega) | (simp [World.setCell]; omega)) _))
    have hC1 := h.below hB1
    generalize w.alloc (.cells #[.int .u64 tot, .int .u64 c] 26) = W at hB1 hC1 ⊢
    go_wp2_with fail
    refine (grow_all W b g f tot q cs hC1 ok hbg hq0 hq1).mono ?_
    rintro e w2 (⟨hf, rfl, hb⟩ | ⟨hf, rfl, g', hg', hC, hF⟩)
    · go_wp2
      go_ret
      exact .inl ⟨fun e => hf e.2, rfl, keep1 hB1 hb⟩
    · have hcr := crF_le f q cs
      have hne := crRow_ne f q cs
      have h4 : (crRow f q cs).length ≤ 4096 := by
        have := crRow_length f q cs
        by_cases hn : cs = []
        · rw [if_pos hn] at this; omega
        · rw [if_neg hn] at this; have := hf hn; omega
      have hv : 0 ≤ (crRow f q cs).getD (q - crF f q cs).toNat 0 ∧ (crRow f q cs).getD (q - crF f q cs).toNat 0 ≤ tot := getD_mem (P := fun c => 0 ≤ c ∧ c ≤ tot) (crRow_mem (P := fun c => 0 ≤ c ∧ c ≤ tot) ⟨by omega, o6⟩ ok.pos) (by omega)
      have HX : Hid (crAdd f q c cs = (crRow f q cs).set (q - crF f q cs).toNat ((crRow f q cs).getD (q - crF f q cs).toNat 0 + c)) := rfl
      obtain ⟨F, hF'⟩ : ∃ F, crF f q cs = F := ⟨_, rfl⟩
      obtain ⟨xs, hxs⟩ : ∃ xs, crRow f q cs = xs := ⟨_, rfl⟩
      rw [hF', hxs] at hcr HX hv hC
      rw [hxs] at hne h4
      have HF := Lib.hid hF'
      clear hF' hxs
      obtain ⟨k, hk⟩ : ∃ k : Nat, q - F = k := ⟨(q - F).toNat, by omega⟩
      rw [hk] at hcr hv HX
      rw [Int.toNat_natCast] at hv HX
      obtain ⟨hcr1, hcr2⟩ := hcr
      obtain ⟨v, hv'⟩ : ∃ v, xs.getD k 0 = v := ⟨_, rfl⟩
      have s1 := hC.cons hne
      have s2 := hC.2 hne
      have c2 := s2.ints (k := k) (by omega)
      rw [hv'] at hv c2 HX
      have u2 := s2.frozen k
      have c1 := s1.three
      have l3 := s1.lt
      have l4 := s2.lt
      obtain ⟨N, hN⟩ : ∃ N, xs.length = N := ⟨_, rfl⟩
      rw [hN] at hcr2 s1 c1
      have hd : IntKind.i64.wrap (q - F) = k := by rw [hk]; simp only [IntKind.wrap_i64]; omega
      have hs : IntKind.u64.wrap (v + c) = v + c := by simp only [IntKind.wrap_u64]; omega
      have hk0 : (0 : Int) ≤ k := by omega
      have hkN : (k : Int) < N := by omega
      have z1 := hB1.size
      have hbg' : b ≠ g' := by rcases hg' with rfl | hg' <;> omega
      have hgb' : g' ≠ b := fun e => hbg' e.symm
      clear hC hk hcr1
      go_wp2
      go_region
      all_goals
        go_wp2
        go_ret
        refine .inr ⟨⟨hp, hf⟩, rfl, g', by omega, hbg', ?_, ?_⟩
        · rw [HF.out, HX.out, hT]
          refine CrB.of (n := N) (fun e => hne (by have := congrArg List.length e; simpa using this)) (by rw [List.length_set, hN]) ?_ ?_
          · exact (((s1.set_other hbg' _).set_any 2 _ rfl).drew)
          · refine ((s2.set_any k _ ?_).set_other (fun e => hbg' e.symm) _).drew
            rw [List.setIfInBounds_toArray, List.map_set]
        · exact (((Frame.of_below hB1).trans (Frame.of_touch hF (by simp))).setc (by rcases hg' with rfl | hg' <;> simp <;> omega) _ _ |>.setc (by simp) _ _).drew
  · obtain ⟨p1, p2⟩ := plus2_no hp
    rw [p1, p2]
    clear p1 p2
    have hp' := Lib.hid hp
    go_wp2
    go_ret
    exact .inl ⟨fun e => by have := hp'.out; have := e.1; omega, rfl, (by repeat (first | with_reducible assumption | with_reducible exact Below.refl _ _ | with_reducible refine Below.drew ?_ | with_reducible refine Below.drewN ?_ _ | with_reducible refine Below.setCell ?_ (by first | omega | (simp; done) | (simp; omega)) _ | with_reducible refine Below.alloc ?_ (by first | omega | (simp; done) | (simp; omega) | (simp [World.setCell]; omega)) _))⟩
end Go.Proofs.Ytogidoohgfmbfaa

