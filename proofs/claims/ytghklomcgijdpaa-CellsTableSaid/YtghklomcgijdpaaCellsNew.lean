/- Contract of package cells: New. -/
import Derived.Test.YtghklomcgijdpaaProg
import Derived.Test.YtghklomcgijdpaaCells
import Derived.Test.YtghklomcgijdpaaUntil
namespace Go.Proofs.Ytghklomcgijdpaa
open Go.RowKit

theorem opwp_append_u64 {o : Oper} {a : Act} {K : Act → World → Prop} {Q : Exit → Act → World → Prop} {w : World} (s x : Operand)
    (ho : o.op = .call { callee := .builtin .append, args := #[s, x], argTypes := #[46, 46] })
    (base : Nat) (A : Option Addr) (cap n : Nat) (xs : List Int) (hs : a.eval s = .slice A n cap) (hn : xs.length = n) (hown : OwnU base w A cap xs)
    (ad : Addr) (c : Nat) (p : Int) (hx : a.eval x = .slice (some ad) 1 c) (h0 : w.cell? (ad.add 0) = some (.int .u64 p))
    (hlen : n ≤ 1099511627776) (hbase : base ≤ w.heap.size)
    (h : ∀ A' cap' w', Hid (OwnU base w' A' cap' (xs ++ [p])) → Hid (w.grownBy w' (Value.slice A n cap).ownBlock) → Hid (∀ B : Option Addr, SepA A B → (∀ b, B = some b → b.block < w.heap.size) → SepA A' B) → K (a.put o.dst (.slice A' (n + 1) cap')) w') :
    Oper.wp Try.prog o a w K Q := by
  subst hn
  obtain ⟨i, hi, hz, hsz, hby⟩ : ∃ i, Try.prog.info? 22 = some i ∧ i.zero = some (.int .u64 0) ∧ i.size = 1 ∧ i.bytes = 8 := by
    have := Try.infoU
    cases hh : Try.prog.info? 22 with
    | none => rw [hh] at this; cases this
    | some i =>
      rw [hh] at this
      simp only [Option.map_some, Option.some.injEq, Prod.mk.injEq] at this
      exact ⟨i, rfl, this.1, this.2.1, this.2.2⟩
  have hnews : ∀ j u, [Value.int .u64 p][j]? = some u → w.cell? (ad.add j) = some u := by
    intro j u hj
    match j, hj with
    | 0, hj => simp only [List.getElem?_cons_zero, Option.some.injEq] at hj; subst hj; exact h0
  obtain ⟨v', w', hr, hown', hg, _, hblk⟩ := run_append_own_at (P := Try.prog) w base 46 o.type _ i _ 1 8 Try.underlyingU hi hz hsz hby rfl (by decide) _ xs.length (xs.map (Value.int .u64)) hown ad 1 c [.int .u64 p] rfl hnews
    (by intro u hu; simp only [List.mem_singleton] at hu; subst hu; rfl) (by simp only [maxLen]; omega) (by omega) hbase
  unfold Oper.wp execOp
  simp only [ho, resolve, invoke, builtin, Sem.run_bind, Sem.run_pure, Result.andThen_ok, List.map_toArray, List.map_cons, List.map_nil, hs, hx, hr]
  have hl : (xs ++ [p]).length = xs.length + 1 := by simp
  have hm : (xs ++ [p]).map (Value.int .u64) = xs.map (Value.int .u64) ++ [.int .u64 p] := by simp
  rw [← hm] at hown'
  rcases hown'.2 with ⟨e, hn⟩ | ⟨g, cp, cur, rfl, r⟩
  · omega
  · refine h _ _ _ (by show OwnU _ _ _ _ _; unfold OwnU; rw [hl]; exact hown') hg ?_
    intro B hs hB a' b' ha hb e
    cases ha
    simp only [Value.ownBlock] at hblk
    rcases hblk with hblk | hblk
    · cases A with
      | none => simp at hblk
      | some a =>
        simp only [Option.some.injEq] at hblk
        exact hs a b' rfl hb (hblk.symm.trans e)
    · simp only [Option.some.injEq] at hblk
      have := hB b' hb
      have e' : g = b'.block := e
      omega

/-- A table that is being built. -/
structure Tb (w0 : World) (B0 b : Nat) (u v : Int) (W : World) (fa fb : Value) (A : Option Addr) (c : Nat) (xs : List Int) (A2 : Option Addr) (c2 : Nat) (ys : List Int) : Prop where
  tab : At W b #[.int .u64 u, .int .u64 v, fa, fb] 52
  own1 : OwnU (b + 1) W A c xs
  own2 : OwnU (b + 1) W A2 c2 ys
  sep : SepA A A2
  arg : At W B0 #[.int .u64 u, .int .u64 v] 29
  below : Below w0.heap.size w0 W
  lt : B0 < b
  le : w0.heap.size ≤ B0

section
variable {w0 W W' : World} {B0 b : Nat} {u v : Int} {fa fb : Value} {A A2 : Option Addr} {c c2 : Nat} {xs ys : List Int}
theorem Tb.belowW (h : Tb w0 B0 b u v W fa fb A c xs A2 c2 ys) (hb : Below W.heap.size W W') : Tb w0 B0 b u v W' fa fb A c xs A2 c2 ys :=
  ⟨h.tab.below hb, h.own1.below hb, h.own2.below hb, h.sep, h.arg.below hb, h.below.trans (hb.mono h.below.size), h.lt, h.le⟩
theorem Tb.alloc (h : Tb w0 B0 b u v W fa fb A c xs A2 c2 ys) (o : Obj) : Tb w0 B0 b u v (W.alloc o) fa fb A c xs A2 c2 ys := h.belowW ((Below.refl _ _).alloc (Nat.le_refl _) o)
theorem Tb.drew (h : Tb w0 B0 b u v W fa fb A c xs A2 c2 ys) : Tb w0 B0 b u v W.drew fa fb A c xs A2 c2 ys := h.belowW (Below.refl _ _).drew
theorem Tb.base (h : Tb w0 B0 b u v W fa fb A c xs A2 c2 ys) : b + 1 ≤ W.heap.size := h.tab.lt
theorem own_ne {base n : Nat} (h : OwnU base W A c xs) {k : Nat} (hk : k < base) : some k ≠ (Value.slice A n c).ownBlock := by
  intro e
  cases A with
  | none => simp [Value.ownBlock] at e
  | some g => simp only [Value.ownBlock, Option.some.injEq] at e; have := (h.base_le g rfl).1; omega
theorem own_ne2 {base n : Nat} (h : OwnU base W A c xs) {k : Nat} (hk : W.heap.size ≤ k) : some k ≠ (Value.slice A n c).ownBlock := by
  intro e
  cases A with
  | none => simp [Value.ownBlock] at e
  | some g => simp only [Value.ownBlock, Option.some.injEq] at e; have := (h.base_le g rfl).2; omega
theorem At.app {n k : Nat} {cs : Array Value} {T : TypeId} (h : At W k cs T) (hg : W.grownBy W' (Value.slice A n c).ownBlock) (hn : some k ≠ (Value.slice A n c).ownBlock) : At W' k cs T := (hg.block k h.lt hn).trans h
theorem SepA.symm (h : SepA A A2) : SepA A2 A := fun a b ha hb e => h b a hb ha e.symm
theorem Tb.app1 {n c' : Nat} {A' : Option Addr} {p : Int} (h : Tb w0 B0 b u v W fa fb A c xs A2 c2 ys) (ho : OwnU (b + 1) W' A' c' (xs ++ [p])) (hg : W.grownBy W' (Value.slice A n c).ownBlock)
    (hs : ∀ B : Option Addr, SepA A B → (∀ b, B = some b → b.block < W.heap.size) → SepA A' B) : Tb w0 B0 b u v W' fa fb A' c' (xs ++ [p]) A2 c2 ys :=
  ⟨h.tab.app hg (own_ne h.own1 (by omega)), ho, h.own2.kept hg h.sep, hs A2 h.sep fun b hb => (h.own2.base_le b hb).2, h.arg.app hg (own_ne h.own1 (by have := h.lt; omega)),
    h.below.grown hg h.below.size fun k hk => by
      cases A with
      | none => simp [Value.ownBlock] at hk
      | some g => simp only [Value.ownBlock, Option.some.injEq] at hk; have := (h.own1.base_le g rfl).1; have := h.lt; have := h.le; omega, h.lt, h.le⟩
theorem Tb.app2 {n c' : Nat} {A' : Option Addr} {p : Int} (h : Tb w0 B0 b u v W fa fb A c xs A2 c2 ys) (ho : OwnU (b + 1) W' A' c' (ys ++ [p])) (hg : W.grownBy W' (Value.slice A2 n c2).ownBlock)
    (hs : ∀ B : Option Addr, SepA A2 B → (∀ b, B = some b → b.block < W.heap.size) → SepA A' B) : Tb w0 B0 b u v W' fa fb A c xs A' c' (ys ++ [p]) :=
  ⟨h.tab.app hg (own_ne h.own2 (by omega)), h.own1.kept hg h.sep.symm, ho, (hs A h.sep.symm fun b hb => (h.own1.base_le b hb).2).symm, h.arg.app hg (own_ne h.own2 (by have := h.lt; omega)),
    h.below.grown hg h.below.size fun k hk => by
      cases A2 with
      | none => simp [Value.ownBlock] at hk
      | some g => simp only [Value.ownBlock, Option.some.injEq] at hk; have := (h.own2.base_le g rfl).1; have := h.lt; have := h.le; omega, h.lt, h.le⟩
theorem OwnU.set {base k i : Nat} (h : OwnU base W A c xs) (hk : k < base) (x : Value) : OwnU base (W.setCell ⟨k, i, none⟩ x) A c xs := by
  obtain ⟨h1, h2⟩ := h
  refine ⟨h1, ?_⟩
  rcases h2 with h2 | ⟨g, cp, cur, e, hg, hc, r⟩
  · exact .inl h2
  · exact .inr ⟨g, cp, cur, e, hg, (Below.heap_setCell W ⟨k, i, none⟩ x g (by show g ≠ k; omega)).trans hc, r⟩
theorem Tb.set1 (h : Tb w0 B0 b u v W fa fb A c xs A2 c2 ys) (x : Value) : Tb w0 B0 b u v (W.setCell ⟨b, 2, none⟩ x) x fb A c xs A2 c2 ys :=
  ⟨h.tab.set_any 2 x rfl, h.own1.set (by omega) x, h.own2.set (by omega) x, h.sep, h.arg.set_other (by have := h.lt; show B0 ≠ b; omega) x, h.below.setCell (p := ⟨b, 2, none⟩) (by have := h.lt; have := h.le; show w0.heap.size ≤ b; omega) x, h.lt, h.le⟩
theorem Tb.set2 (h : Tb w0 B0 b u v W fa fb A c xs A2 c2 ys) (x : Value) : Tb w0 B0 b u v (W.setCell ⟨b, 3, none⟩ x) fa x A c xs A2 c2 ys :=
  ⟨h.tab.set_any 3 x rfl, h.own1.set (by omega) x, h.own2.set (by omega) x, h.sep, h.arg.set_other (by have := h.lt; show B0 ≠ b; omega) x, h.below.setCell (p := ⟨b, 3, none⟩) (by have := h.lt; have := h.le; show w0.heap.size ≤ b; omega) x, h.lt, h.le⟩
end

theorem ite_of {c : Prop} [Decidable c] {A B : Prop} (h : c) (a : A) : if c then A else B := by rw [if_pos h]; exact a
def TabW (b : Nat) (u v : Int) (fa fb : Value) (W : World) : Prop := At W b #[.int .u64 u, .int .u64 v, fa, fb] 52
theorem TabW.at {b : Nat} {u v : Int} {fa fb : Value} {W : World} (h : TabW b u v fa fb W) : At W b #[.int .u64 u, .int .u64 v, fa, fb] 52 := h

theorem cellsF_step {u v f low : Nat} {L0 : List Nat} {V : Option (List Nat)} (h : V = (cellsF u v (f + 1) low).map (L0 ++ ·)) (hl : low ≤ mostN) : V = (cellsF u v f (highN u v low + 1)).map ((L0 ++ [low]) ++ ·) := by
  rw [h, cellsF, if_neg (by omega)]
  cases cellsF u v f (highN u v low + 1) <;> simp

/-- What New answers. -/
def NewR (u v : Nat) (e : Ending) (w' : World) : Prop := match cellsF u v 4096 1 with
  | none => e = .returned (.tuple #[.pointer none, .int .i64 6])
  | some L => ∃ b, e = .returned (.tuple #[.pointer (some ⟨b, 0, none⟩), .int .i64 0]) ∧ Tab w' b u v L (L.map (repN u v))

set_option maxRecDepth 100000 in
set_option maxHeartbeats 4000000 in
theorem cnew_good (u v : Nat) (w : World) (hu0 : 0 < u) (hu : u < v) (hv : v ≤ 2147483648) :
    Calls Try.prog 9 #[.agg #[.int .u64 u, .int .u64 v]] w fun e w' => NewR u v e w' ∧ Below w.heap.size w w' := by
  have hg : goodC (u : Int) (v : Int) = true := goodC_iff.2 ⟨by omega, by omega, by omega⟩
  go_enter Try.func9, Try.ntmps9
  go_wp2_with fail
  refine (cgood_any u v _ (by omega) (by omega) (by omega) (by omega)).mono ?_
  rintro e w1 ⟨rfl, hb⟩
  rw [hg]
  have s1 : At w1 w.heap.size #[.int .u64 u, .int .u64 v] 29 := At.below (At.new' _ _ _ rfl) hb
  have hB : Below w.heap.size w w1 := Below.trans (by repeat (first | with_reducible assumption | with_reducible exact Below.refl _ _ | with_reducible refine Below.drew ?_ | with_reducible refine Below.drewN ?_ _ | with_reducible refine Below.setCell ?_ (by first | omega | (simp; done) | (simp; omega)) _ | with_reducible refine Below.alloc ?_ (by first | omega | (simp; done) | (simp; omega) | (simp [World.setCell]; omega)) _)) (hb.mono (by first | omega | (simp; done) | (simp; omega) | (simp [World.setCell]; omega)))
  have f1 := s1.two
  have l1 := s1.lt
  clear hb hg
  go_wp2
  obtain ⟨b, hbe⟩ : ∃ b, w1.heap.size = b := ⟨_, rfl⟩
  obtain ⟨B0, hB0⟩ : ∃ B0, w.heap.size = B0 := ⟨_, rfl⟩
  refine gen_world (fun W => Hid (Tb w B0 b u v W (.slice none 0 0) (.slice none 0 0) none 0 [] none 0 [])) ?_ ?_
  · exact ⟨At.new' _ _ _ hbe.symm, OwnU.nil _ _, OwnU.nil _ _, fun a b h => (by cases h), by rw [← hB0]; exact s1.alloc _, (by repeat (first | with_reducible assumption | with_reducible exact Below.refl _ _ | with_reducible refine Below.drew ?_ | with_reducible refine Below.drewN ?_ _ | with_reducible refine Below.setCell ?_ (by first | omega | (simp; done) | (simp; omega)) _ | with_reducible refine Below.alloc ?_ (by first | omega | (simp; done) | (simp; omega) | (simp [World.setCell]; omega)) _)), by omega, by omega⟩
  rintro W HT
  simp only [hbe, hB0]
  clear hbe hB0 s1 hB f1 l1
  obtain ⟨V, hV⟩ : ∃ V, Hid (cellsF u v 4096 1 = V) := ⟨_, rfl⟩
  go_loopw [5] (fun lv wr => ∃ (n low : Nat) (L0 : List Nat) (A : Option Addr) (c : Nat) (A2 : Option Addr) (c2 : Nat), n ≤ 4096 ∧ Hid (L0.length = n) ∧ lv = .int .u64 low ∧ 1 ≤ low ∧ low ≤ 9223372036854775809 ∧ Hid (Tb w B0 b u v wr (.slice A n c) (.slice A2 n c2) A c (castL L0) A2 c2 (castL (L0.map (repN u v)))) ∧
      Hid (V = (cellsF u v (4096 - n) low).map (L0 ++ ·))) (fun lv _ => 9223372036854775809 - (intOf lv).toNat)
  case atStart => exact ⟨0, 1, [], none, 0, none, 0, by omega, rfl, rfl, by omega, by omega, HT, by show _ = _; rw [← hV.out]; simp⟩
  case round =>
    clear HT
    obtain ⟨n, low, L0, A, c, A2, c2, hn, hL, rfl, hl1, hl2, HT, HC⟩ := hrel
    have fT := HT.out.tab.four
    have fA := HT.out.arg.two
    by_cases hle : low ≤ 9223372036854775808
    · have hle' : (low : Int) ≤ 9223372036854775808 := by omega
      by_cases hfull : n = 4096
      · subst hfull
        have HN : Hid (cellsF u v 4096 1 = none) := by
          show _ = _
          rw [hV.out, HC.out, Nat.sub_self, cellsF, if_neg (by unfold mostN; omega)]
          rfl
        have hbel := HT.out.below
        clear hV HC hL
        go_wp2
        go_ret2
        exact ⟨by unfold NewR; rw [HN.out]; rfl, hbel⟩
      · have hn' : ¬ (4096 : Int) ≤ n := by omega
        go_wp2_with fail
        refine (next_any u v low _ hu0 hu hv hle).mono ?_
        rintro e w2 ⟨rfl, hb⟩
        have hz := HT.out.tab.lt
        replace HT := Lib.hid (HT.out.belowW hb)
        have hh1 := highN_ge (u := u) (v := v) (low := low) hu hle
        have hh2 := highN_le (u := u) (v := v) (low := low)
        have HC2 : Hid (V = (cellsF u v (4096 - (n + 1)) (highN u v low + 1)).map ((L0 ++ [low]) ++ ·)) := cellsF_step (by rw [show 4096 - (n + 1) + 1 = 4096 - n by omega]; exact HC.out) hle
        obtain ⟨r, hr⟩ : ∃ r, repN u v low = r := ⟨_, rfl⟩
        obtain ⟨h, hh⟩ : ∃ h, highN u v low = h := ⟨_, rfl⟩
        have HR : Hid (castL ((L0 ++ [low]).map (repN u v)) = castL (L0.map (repN u v)) ++ [(r : Int)]) := by show _ = _; rw [List.map_append, castL, List.map_append, ← hr]; rfl
        have HL : Hid (castL (L0 ++ [low]) = castL L0 ++ [(low : Int)]) := castL_append _ _
        rw [hh] at hh1 hh2 HC2
        rw [hr, hh]
        have hbase := HT.out.base
        have hlen1 := Lib.hid (show (castL L0).length = n by rw [castL_length]; exact hL.out)
        have hlen2 := Lib.hid (show (castL (L0.map (repN u v))).length = n by rw [castL_length, List.length_map]; exact hL.out)
        have hLn := hL
        clear hr hh hb HC fT fA hz hL
        unfold mostN at hh2
        go_upto_region 9 with fail
        have fT := HT.out.tab.drew.four
        refine wp_region_noPanic ?_
        refine wp_region_until (S := HeldS (TabW b u v (.slice A n c) (.slice A2 n c2))) 18 (by kernel_rfl) ?_
        replace HT := Lib.hid HT.out.drew
        replace hbase : b + 1 ≤ w2.drew.heap.size := hbase
        obtain ⟨W0, hW0⟩ : ∃ W0, w2.drew = W0 := ⟨_, rfl⟩
        rw [hW0] at HT hbase fT ⊢
        have hHeld : HeldS (TabW b u v (.slice A n c) (.slice A2 n c2)) W0 := HeldS.mk' HT.out.tab
        have hne : Nonempty (Held (TabW b u v (.slice A n c) (.slice A2 n c2))) := ⟨⟨W0, HT.out.tab⟩⟩
        clear hW0 fT
        have hfarT := fun x : Held (TabW b u v (.slice A n c) (.slice A2 n c2)) => x.held.at.four
        have hneF : Nonempty (Held fun _ => True) := ⟨⟨W0, trivial⟩⟩
        refine wpAnyU_run0F [true, true, true, true, true, false, true, false, false, true, true, true, false, true] 12 (by kernel_rfl) (by kernel_rfl) (fun _ _ _ _ h => h) (by kernel_rfl) hHeld ?_
        simp only [runOps_true, runOps_false, runOps_nil]
        repeat (first | go_big_quiet_skip | (go_big_quiet_want; go_big_quiet_op; go_big_quiet_on))
        refine wpQuiet_nil ?_
        refine wpAnyU_run0 [false, false, false, false, false, true, false, false, false, false, false, false, true] 10 (by kernel_rfl) (by kernel_rfl) (fun _ _ _ _ h => h) (by kernel_rfl) hHeld ?_
        simp only [runOps_true, runOps_false, runOps_nil]
        repeat (first | go_big_quiet_skip | (go_big_quiet_want; go_big_quiet_op; go_big_quiet_on))
        refine wpQuiet_nil ?_
        clear hfarT hne hneF
        have NE : Hid (∀ k, W0.heap.size ≤ k → some k ≠ (Value.slice A n c).ownBlock) := fun k hk => own_ne2 HT.out.own1 hk
        have hsz0 : W0.heap.size ≤ W0.heap.size := Nat.le_refl _
        refine wpAnyU_ready (rs := [7, 14]) (by kernel_rfl) (by simp) ?_
        refine AllReadyU.cons rfl (fun K hK => ?_) (AllReadyU.cons rfl (fun K hK => ?_) (AllReadyU.nil))
        · go_simp
          go_wp2
          refine hK.out _ _ (fun _ => HeldS.mk' (HT.out.alloc _).tab) ?_
          clear hK K
          have E1 := At.new W0 #[.int .u64 low] 22
          obtain ⟨e1, he1⟩ : ∃ e, W0.heap.size = e := ⟨_, rfl⟩
          replace HT := Lib.hid (HT.out.alloc (.cells #[.int .u64 low] 22))
          have le1 : W0.heap.size ≤ e1 := by omega
          have hsz1 : W0.heap.size ≤ (W0.alloc (.cells #[.int .u64 low] 22)).heap.size := (by first | omega | (simp; done) | (simp; omega) | (simp [World.setCell]; omega))
          generalize W0.alloc (.cells #[.int .u64 low] 22) = W1 at HT E1 hsz1 ⊢
          simp only [he1] at E1 ⊢
          clear he1
          refine wpAnyU_ready (rs := [8, 14]) (by kernel_rfl) (by simp) ?_
          refine AllReadyU.cons rfl (fun K hK => ?_) (AllReadyU.cons rfl (fun K hK => ?_) (AllReadyU.nil))
          · refine ite_of rfl ?_
            refine opwp_append_u64 _ _ rfl (b + 1) A c n (castL L0) rfl hlen1.out HT.out.own1 ⟨e1, 0, none⟩ 1 low rfl (by rw [Addr.add_lit]; exact E1.one.1) (by omega) HT.out.base ?_
            intro A1 c1 W2 HO HG HS
            simp only [Act.put, List.setIfInBounds_toArray, List.set_cons_zero, List.set_cons_succ]
            refine hK.out _ _ (fun _ => HeldS.mk' (HT.out.tab.app HG.out (own_ne HT.out.own1 (by omega)))) ?_
            clear hK K
            have hsz2 := Nat.le_trans hsz1 HG.out.size
            replace HT := Lib.hid (HT.out.app1 HO.out HG.out HS.out)
            clear HO HG HS E1
            refine wpAnyU_ready (rs := [14]) (by kernel_rfl) (by simp) ?_
            refine AllReadyU.cons rfl (fun K hK => ?_) (AllReadyU.nil)
            go_simp
            go_wp2
            refine hK.out _ _ (fun _ => HeldS.mk' (HT.out.alloc _).tab) ?_
            clear hK K
            have E2 := At.new W2 #[.int .u64 r] 22
            obtain ⟨e2, he2⟩ : ∃ e, W2.heap.size = e := ⟨_, rfl⟩
            replace HT := Lib.hid (HT.out.alloc (.cells #[.int .u64 r] 22))
            have le2 : W0.heap.size ≤ e2 := by have := hsz2; omega
            have hsz3 : W0.heap.size ≤ (W2.alloc (.cells #[.int .u64 r] 22)).heap.size := (by first | omega | (simp; done) | (simp; omega) | (simp [World.setCell]; omega))
            generalize W2.alloc (.cells #[.int .u64 r] 22) = W3 at HT E2 hsz3 ⊢
            simp only [he2] at E2 ⊢
            clear he2
            refine wpAnyU_ready (rs := [15]) (by kernel_rfl) (by simp) ?_
            refine AllReadyU.cons rfl (fun K hK => ?_) (AllReadyU.nil)
            refine ite_of rfl ?_
            refine opwp_append_u64 _ _ rfl (b + 1) A2 c2 n (castL (L0.map (repN u v))) rfl hlen2.out HT.out.own2 ⟨e2, 0, none⟩ 1 r rfl (by rw [Addr.add_lit]; exact E2.one.1) (by omega) HT.out.base ?_
            intro A3 c3 W4 HO HG HS
            simp only [Act.put, List.setIfInBounds_toArray, List.set_cons_zero, List.set_cons_succ]
            refine hK.out _ _ (fun _ => HeldS.mk' (HT.out.tab.app HG.out (own_ne HT.out.own2 (by omega)))) ?_
            clear hK K
            replace HT := Lib.hid (HT.out.app2 HO.out HG.out HS.out)
            clear HO HG HS E2
            refine wpAnyU_ready (rs := [16]) (by kernel_rfl) (by simp) ?_
            refine AllReadyU.cons rfl (fun K hK => ?_) (AllReadyU.nil)
            go_simp
            go_wp2
            refine hK.out _ _ (fun _ => HeldS.mk' HT.out.tab) ?_
            clear hK K
            refine wpAnyU_ready (rs := [17]) (by kernel_rfl) (by simp) ?_
            refine AllReadyU.cons rfl (fun K hK => ?_) (AllReadyU.nil)
            go_simp
            go_wp2
            refine hK.out _ _ (fun _ => HeldS.mk' HT.out.tab) ?_
            clear hK K
            refine wpAnyU_ready (rs := [18]) (by kernel_rfl) (by simp) ?_
            refine AllReadyU.cons rfl (fun K hK => ?_) (AllReadyU.nil)
            have fT := HT.out.tab.four
            go_simp
            go_wp2
            refine hK.out _ _ (fun h => late_no h (by kernel_rfl)) ?_
            clear hK K fT
            replace HT := Lib.hid (HT.out.set1 (.slice A1 (n + 1) c1))
            refine wpAnyU_ready (rs := [19]) (by kernel_rfl) (by simp) ?_
            refine AllReadyU.cons rfl (fun K hK => ?_) (AllReadyU.nil)
            go_simp
            go_wp2
            refine hK.out _ _ (fun h => late_no h (by kernel_rfl)) ?_
            clear hK K
            refine wpAnyU_ready (rs := [20]) (by kernel_rfl) (by simp) ?_
            refine AllReadyU.cons rfl (fun K hK => ?_) (AllReadyU.nil)
            go_simp
            go_wp2
            refine hK.out _ _ (fun h => late_no h (by kernel_rfl)) ?_
            clear hK K
            refine wpAnyU_ready (rs := [21]) (by kernel_rfl) (by simp) ?_
            refine AllReadyU.cons rfl (fun K hK => ?_) (AllReadyU.nil)
            have fT := HT.out.tab.four
            go_simp
            go_wp2
            refine hK.out _ _ (fun h => late_no h (by kernel_rfl)) ?_
            clear hK K fT
            replace HT := Lib.hid (HT.out.set2 (.slice A3 (n + 1) c3))
            refine wpAnyU_done (by kernel_rfl) ?_ _
            refine NoPanic.normal ?_
            rw [← HL.out, ← HR.out] at HT
            have vh : IntKind.u64.wrap ((h : Int) + 1) = ((h + 1 : Nat) : Int) := by simp only [IntKind.wrap_u64]; omega
            go_wp2
            go_roundw
            case rel => exact ⟨n + 1, h + 1, L0 ++ [low], A1, c1, A3, c3, by omega, by show _ = _; rw [List.length_append, hLn.out]; rfl, by go_num, by omega, by omega, HT, HC2⟩
            case measure => simp [intOf]; omega
          · go_simp
            go_wp2
            refine hK.out _ _ (fun _ => HeldS.mk' (HT.out.alloc _).tab) ?_
            clear hK K
            have E2 := At.new W1 #[.int .u64 r] 22
            obtain ⟨e2, he2⟩ : ∃ e, W1.heap.size = e := ⟨_, rfl⟩
            replace E1 := E1.alloc (.cells #[.int .u64 r] 22)
            replace HT := Lib.hid (HT.out.alloc (.cells #[.int .u64 r] 22))
            have le2 : W0.heap.size ≤ e2 := by have := hsz1; omega
            have hsz2 : W0.heap.size ≤ (W1.alloc (.cells #[.int .u64 r] 22)).heap.size := (by first | omega | (simp; done) | (simp; omega) | (simp [World.setCell]; omega))
            generalize W1.alloc (.cells #[.int .u64 r] 22) = W2 at HT E2 E1 hsz2 ⊢
            simp only [he2] at E2 ⊢
            clear he2
            refine wpAnyU_ready (rs := [8]) (by kernel_rfl) (by simp) ?_
            refine AllReadyU.cons rfl (fun K hK => ?_) (AllReadyU.nil)
            refine ite_of rfl ?_
            refine opwp_append_u64 _ _ rfl (b + 1) A c n (castL L0) rfl hlen1.out HT.out.own1 ⟨e1, 0, none⟩ 1 low rfl (by rw [Addr.add_lit]; exact E1.one.1) (by omega) HT.out.base ?_
            intro A1 c1 W3 HO HG HS
            simp only [Act.put, List.setIfInBounds_toArray, List.set_cons_zero, List.set_cons_succ]
            refine hK.out _ _ (fun _ => HeldS.mk' (HT.out.tab.app HG.out (own_ne HT.out.own1 (by omega)))) ?_
            clear hK K
            replace E2 := E2.app HG.out (NE.out _ le2)
            have hsz3 := Nat.le_trans hsz2 HG.out.size
            replace HT := Lib.hid (HT.out.app1 HO.out HG.out HS.out)
            clear HO HG HS E1
            refine wpAnyU_ready (rs := [15]) (by kernel_rfl) (by simp) ?_
            refine AllReadyU.cons rfl (fun K hK => ?_) (AllReadyU.nil)
            refine ite_of rfl ?_
            refine opwp_append_u64 _ _ rfl (b + 1) A2 c2 n (castL (L0.map (repN u v))) rfl hlen2.out HT.out.own2 ⟨e2, 0, none⟩ 1 r rfl (by rw [Addr.add_lit]; exact E2.one.1) (by omega) HT.out.base ?_
            intro A3 c3 W4 HO HG HS
            simp only [Act.put, List.setIfInBounds_toArray, List.set_cons_zero, List.set_cons_succ]
            refine hK.out _ _ (fun _ => HeldS.mk' (HT.out.tab.app HG.out (own_ne HT.out.own2 (by omega)))) ?_
            clear hK K
            replace HT := Lib.hid (HT.out.app2 HO.out HG.out HS.out)
            clear HO HG HS E2
            refine wpAnyU_ready (rs := [16]) (by kernel_rfl) (by simp) ?_
            refine AllReadyU.cons rfl (fun K hK => ?_) (AllReadyU.nil)
            go_simp
            go_wp2
            refine hK.out _ _ (fun _ => HeldS.mk' HT.out.tab) ?_
            clear hK K
            refine wpAnyU_ready (rs := [17]) (by kernel_rfl) (by simp) ?_
            refine AllReadyU.cons rfl (fun K hK => ?_) (AllReadyU.nil)
            go_simp
            go_wp2
            refine hK.out _ _ (fun _ => HeldS.mk' HT.out.tab) ?_
            clear hK K
            refine wpAnyU_ready (rs := [18]) (by kernel_rfl) (by simp) ?_
            refine AllReadyU.cons rfl (fun K hK => ?_) (AllReadyU.nil)
            have fT := HT.out.tab.four
            go_simp
            go_wp2
            refine hK.out _ _ (fun h => late_no h (by kernel_rfl)) ?_
            clear hK K fT
            replace HT := Lib.hid (HT.out.set1 (.slice A1 (n + 1) c1))
            refine wpAnyU_ready (rs := [19]) (by kernel_rfl) (by simp) ?_
            refine AllReadyU.cons rfl (fun K hK => ?_) (AllReadyU.nil)
            go_simp
            go_wp2
            refine hK.out _ _ (fun h => late_no h (by kernel_rfl)) ?_
            clear hK K
            refine wpAnyU_ready (rs := [20]) (by kernel_rfl) (by simp) ?_
            refine AllReadyU.cons rfl (fun K hK => ?_) (AllReadyU.nil)
            go_simp
            go_wp2
            refine hK.out _ _ (fun h => late_no h (by kernel_rfl)) ?_
            clear hK K
            refine wpAnyU_ready (rs := [21]) (by kernel_rfl) (by simp) ?_
            refine AllReadyU.cons rfl (fun K hK => ?_) (AllReadyU.nil)
            have fT := HT.out.tab.four
            go_simp
            go_wp2
            refine hK.out _ _ (fun h => late_no h (by kernel_rfl)) ?_
            clear hK K fT
            replace HT := Lib.hid (HT.out.set2 (.slice A3 (n + 1) c3))
            refine wpAnyU_done (by kernel_rfl) ?_ _
            refine NoPanic.normal ?_
            rw [← HL.out, ← HR.out] at HT
            have vh : IntKind.u64.wrap ((h : Int) + 1) = ((h + 1 : Nat) : Int) := by simp only [IntKind.wrap_u64]; omega
            go_wp2
            go_roundw
            case rel => exact ⟨n + 1, h + 1, L0 ++ [low], A1, c1, A3, c3, by omega, by show _ = _; rw [List.length_append, hLn.out]; rfl, by go_num, by omega, by omega, HT, HC2⟩
            case measure => simp [intOf]; omega
        · go_simp
          go_wp2
          refine hK.out _ _ (fun _ => HeldS.mk' (HT.out.alloc _).tab) ?_
          clear hK K
          have E2 := At.new W0 #[.int .u64 r] 22
          obtain ⟨e2, he2⟩ : ∃ e, W0.heap.size = e := ⟨_, rfl⟩
          replace HT := Lib.hid (HT.out.alloc (.cells #[.int .u64 r] 22))
          have le2 : W0.heap.size ≤ e2 := by omega
          have hsz1 : W0.heap.size ≤ (W0.alloc (.cells #[.int .u64 r] 22)).heap.size := (by first | omega | (simp; done) | (simp; omega) | (simp [World.setCell]; omega))
          generalize W0.alloc (.cells #[.int .u64 r] 22) = W1 at HT E2 hsz1 ⊢
          simp only [he2] at E2 ⊢
          clear he2
          refine wpAnyU_ready (rs := [7]) (by kernel_rfl) (by simp) ?_
          refine AllReadyU.cons rfl (fun K hK => ?_) (AllReadyU.nil)
          go_simp
          go_wp2
          refine hK.out _ _ (fun _ => HeldS.mk' (HT.out.alloc _).tab) ?_
          clear hK K
          have E1 := At.new W1 #[.int .u64 low] 22
          obtain ⟨e1, he1⟩ : ∃ e, W1.heap.size = e := ⟨_, rfl⟩
          replace E2 := E2.alloc (.cells #[.int .u64 low] 22)
          replace HT := Lib.hid (HT.out.alloc (.cells #[.int .u64 low] 22))
          have le1 : W0.heap.size ≤ e1 := by have := hsz1; omega
          have hsz2 : W0.heap.size ≤ (W1.alloc (.cells #[.int .u64 low] 22)).heap.size := (by first | omega | (simp; done) | (simp; omega) | (simp [World.setCell]; omega))
          generalize W1.alloc (.cells #[.int .u64 low] 22) = W2 at HT E1 E2 hsz2 ⊢
          simp only [he1] at E1 ⊢
          clear he1
          refine wpAnyU_ready (rs := [8]) (by kernel_rfl) (by simp) ?_
          refine AllReadyU.cons rfl (fun K hK => ?_) (AllReadyU.nil)
          refine ite_of rfl ?_
          refine opwp_append_u64 _ _ rfl (b + 1) A c n (castL L0) rfl hlen1.out HT.out.own1 ⟨e1, 0, none⟩ 1 low rfl (by rw [Addr.add_lit]; exact E1.one.1) (by omega) HT.out.base ?_
          intro A1 c1 W3 HO HG HS
          simp only [Act.put, List.setIfInBounds_toArray, List.set_cons_zero, List.set_cons_succ]
          refine hK.out _ _ (fun _ => HeldS.mk' (HT.out.tab.app HG.out (own_ne HT.out.own1 (by omega)))) ?_
          clear hK K
          replace E2 := E2.app HG.out (NE.out _ le2)
          have hsz3 := Nat.le_trans hsz2 HG.out.size
          replace HT := Lib.hid (HT.out.app1 HO.out HG.out HS.out)
          clear HO HG HS E1
          refine wpAnyU_ready (rs := [15]) (by kernel_rfl) (by simp) ?_
          refine AllReadyU.cons rfl (fun K hK => ?_) (AllReadyU.nil)
          refine ite_of rfl ?_
          refine opwp_append_u64 _ _ rfl (b + 1) A2 c2 n (castL (L0.map (repN u v))) rfl hlen2.out HT.out.own2 ⟨e2, 0, none⟩ 1 r rfl (by rw [Addr.add_lit]; exact E2.one.1) (by omega) HT.out.base ?_
          intro A3 c3 W4 HO HG HS
          simp only [Act.put, List.setIfInBounds_toArray, List.set_cons_zero, List.set_cons_succ]
          refine hK.out _ _ (fun _ => HeldS.mk' (HT.out.tab.app HG.out (own_ne HT.out.own2 (by omega)))) ?_
          clear hK K
          replace HT := Lib.hid (HT.out.app2 HO.out HG.out HS.out)
          clear HO HG HS E2
          refine wpAnyU_ready (rs := [16]) (by kernel_rfl) (by simp) ?_
          refine AllReadyU.cons rfl (fun K hK => ?_) (AllReadyU.nil)
          go_simp
          go_wp2
          refine hK.out _ _ (fun _ => HeldS.mk' HT.out.tab) ?_
          clear hK K
          refine wpAnyU_ready (rs := [17]) (by kernel_rfl) (by simp) ?_
          refine AllReadyU.cons rfl (fun K hK => ?_) (AllReadyU.nil)
          go_simp
          go_wp2
          refine hK.out _ _ (fun _ => HeldS.mk' HT.out.tab) ?_
          clear hK K
          refine wpAnyU_ready (rs := [18]) (by kernel_rfl) (by simp) ?_
          refine AllReadyU.cons rfl (fun K hK => ?_) (AllReadyU.nil)
          have fT := HT.out.tab.four
          go_simp
          go_wp2
          refine hK.out _ _ (fun h => late_no h (by kernel_rfl)) ?_
          clear hK K fT
          replace HT := Lib.hid (HT.out.set1 (.slice A1 (n + 1) c1))
          refine wpAnyU_ready (rs := [19]) (by kernel_rfl) (by simp) ?_
          refine AllReadyU.cons rfl (fun K hK => ?_) (AllReadyU.nil)
          go_simp
          go_wp2
          refine hK.out _ _ (fun h => late_no h (by kernel_rfl)) ?_
          clear hK K
          refine wpAnyU_ready (rs := [20]) (by kernel_rfl) (by simp) ?_
          refine AllReadyU.cons rfl (fun K hK => ?_) (AllReadyU.nil)
          go_simp
          go_wp2
          refine hK.out _ _ (fun h => late_no h (by kernel_rfl)) ?_
          clear hK K
          refine wpAnyU_ready (rs := [21]) (by kernel_rfl) (by simp) ?_
          refine AllReadyU.cons rfl (fun K hK => ?_) (AllReadyU.nil)
          have fT := HT.out.tab.four
          go_simp
          go_wp2
          refine hK.out _ _ (fun h => late_no h (by kernel_rfl)) ?_
          clear hK K fT
          replace HT := Lib.hid (HT.out.set2 (.slice A3 (n + 1) c3))
          refine wpAnyU_done (by kernel_rfl) ?_ _
          refine NoPanic.normal ?_
          rw [← HL.out, ← HR.out] at HT
          have vh : IntKind.u64.wrap ((h : Int) + 1) = ((h + 1 : Nat) : Int) := by simp only [IntKind.wrap_u64]; omega
          go_wp2
          go_roundw
          case rel => exact ⟨n + 1, h + 1, L0 ++ [low], A1, c1, A3, c3, by omega, by show _ = _; rw [List.length_append, hLn.out]; rfl, by go_num, by omega, by omega, HT, HC2⟩
          case measure => simp [intOf]; omega
    · have hle' : ¬ (low : Int) ≤ 9223372036854775808 := by omega
      have HN : Hid (cellsF u v 4096 1 = some L0) := by
        show _ = _
        rw [hV.out, HC.out]
        unfold cellsF
        rw [if_pos (by unfold mostN; omega)]
        simp
      have hbel := HT.out.below
      have hnl := hL.out
      have htab : Hid (Tab wr b u v L0 (L0.map (repN u v))) := by
        refine ⟨⟨A, c, A2, c2, ?_, HT.out.own1.rd, HT.out.own2.rd⟩, by omega, by rw [List.length_map]; omega⟩
        rw [List.length_map, hnl]
        exact HT.out.tab
      clear hV HC hL hnl
      go_wp2
      go_ret2
      exact ⟨by unfold NewR; rw [HN.out]; exact ⟨b, rfl, htab.out⟩, hbel⟩

theorem cnew_bad (u v : Int) (w : World) (h1 : 0 ≤ u) (h2 : u < 18446744073709551616) (h3 : 0 ≤ v) (h4 : v < 18446744073709551616) (hg : goodC u v = false) :
    Calls Try.prog 9 #[.agg #[.int .u64 u, .int .u64 v]] w fun e w' => e = .returned (.tuple #[.pointer none, .int .i64 1]) ∧ Below w.heap.size w w' := by
  go_enter Try.func9, Try.ntmps9
  go_wp2_with fail
  refine (cgood_any u v _ h1 h2 h3 h4).mono ?_
  rintro e w1 ⟨rfl, hb⟩
  rw [hg]
  have hB : Below w.heap.size w w1 := Below.trans (by repeat (first | with_reducible assumption | with_reducible exact Below.refl _ _ | with_reducible refine Below.drew ?_ | with_reducible refine Below.drewN ?_ _ | with_reducible refine Below.setCell ?_ (by first | omega | (simp; done) | (simp; omega)) _ | with_reducible refine Below.alloc ?_ (by first | omega | (simp; done) | (simp; omega) | (simp [World.setCell]; omega)) _)) (hb.mono (by first | omega | (simp; done) | (simp; omega) | (simp [World.setCell]; omega)))
  clear hb hg
  go_wp2
  go_ret2
  exact ⟨rfl, hB⟩
end Go.Proofs.Ytghklomcgijdpaa

