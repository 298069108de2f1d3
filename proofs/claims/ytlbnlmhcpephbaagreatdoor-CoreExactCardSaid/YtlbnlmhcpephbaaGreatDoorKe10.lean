/- Texts of this claim, joined, indents halved: ESu0, ESu1, ESu2, ESu3. -/
import Derived.Test.YtlbnlmhcpephbaaGreatDoorProg
import Derived.StillTailTactics
import Derived.Test.YtlbnlmhcpephbaaGreatDoorKe9
namespace Go.Proofs.YtlbnlmhcpephbaaGreatDoor
open Go.RowKit
set_option maxRecDepth 100000
set_option maxHeartbeats 4000000
def MethC (T : TypeId) (v : Value) (name : String) (f : FuncId) (r : Value) : Prop := (∀ w : World, (method 545 T v name).run Tryz.prog w = .ok (f, r) w) ∧ ∀ (args : Array Value) (w : World), (callFunc f args).run Tryz.prog w = .ok (.enter f args) w
theorem At.tw {w : World} {b : Nat} {T : TypeId} {v0 v1 v2 v3 v4 v5 v6 v7 v8 v9 v10 v11 : Value} (h : At w b #[v0, v1, v2, v3, v4, v5, v6, v7, v8, v9, v10, v11] T) :
  (w.cell? ⟨b, 0, none⟩ = some v0 ∧ w.cell? ⟨b, 1, none⟩ = some v1 ∧ w.cell? ⟨b, 2, none⟩ = some v2 ∧ w.cell? ⟨b, 3, none⟩ = some v3 ∧ w.cell? ⟨b, 4, none⟩ = some v4 ∧ w.cell? ⟨b, 5, none⟩ = some v5 ∧ w.cell? ⟨b, 6, none⟩ = some v6 ∧ w.cell? ⟨b, 7, none⟩ = some v7 ∧ w.cell? ⟨b, 8, none⟩ = some v8 ∧ w.cell? ⟨b, 9, none⟩ = some v9 ∧ w.cell? ⟨b, 10, none⟩ = some v10) ∧ w.cell? ⟨b, 11, none⟩ = some v11 :=
 ⟨⟨h.cell rfl, h.cell rfl, h.cell rfl, h.cell rfl, h.cell rfl, h.cell rfl, h.cell rfl, h.cell rfl, h.cell rfl, h.cell rfl, h.cell rfl⟩, h.cell rfl⟩
theorem grown_sk {b : Nat} {Q Q' : List Nat} {n : Nat} (hb : b ∉ Q) (hlt : b < n) (hg : GrownS Q Q' n) : b ∉ Q' ∧ GrownS (b :: Q) (b :: Q') n := by
 refine ⟨fun hm => ?_, fun j hj => ?_⟩
 ·rcases hg b hm with h | h
  ·exact hb h
  ·omega
 ·rcases List.mem_cons.1 hj with rfl | hj
  ·exact .inl (by simp)
  ·rcases hg j hj with h | h
   ·exact .inl (by simp [h])
   ·exact .inr h
structure EyJ (w W : World) (b : Nat) (l : List UInt8) : Prop where
 eye : Eye W b l
 fr : Frame [b] w W
 lt : b < w.heap.size
section
variable {w W W' : World} {b : Nat} {l l' : List UInt8} {S : List Nat}
theorem EyJ.start (h : Eye w b l) : EyJ w w b l := ⟨h, Frame.refl _ _, At.lt h⟩
theorem EyJ.read (h : EyJ w W b l) (hE : Eye W' b l') (hF : Frame [b] W W') : EyJ w W' b l' := ⟨hE, h.fr.trans hF, h.lt⟩
theorem EyJ.below (h : EyJ w W b l) (hb : Below W.heap.size W W') : EyJ w W' b l := ⟨h.eye.below hb, h.fr.trans (Frame.of_below hb), h.lt⟩
theorem EyJ.at {k : Nat} {cs : Array Value} {T : TypeId} (h : EyJ w W b l) (ha : At W k cs T) (hF : Frame [b] W W') (hk : w.heap.size ≤ k) : At W' k cs T := hF.at ha (by have := h.lt; simp only [List.mem_singleton]; omega)
theorem EyJ.own {k : Nat} (h : EyJ w W b l) (hF : Frame [k] W W') (hk : w.heap.size ≤ k) : EyJ w W' b l :=
 ⟨h.eye.frame hF (by have := h.lt; simp only [List.mem_singleton]; omega), ⟨hF.os.trans h.fr.os, hF.tape.trans h.fr.tape, hF.output.trans h.fr.output, Nat.le_trans h.fr.size hF.size, fun j hj hn => (hF.block j (Nat.lt_of_lt_of_le hj h.fr.size) (by simp only [List.mem_singleton]; omega)).trans (h.fr.block j hj hn)⟩, h.lt⟩
theorem rd_eye {A : Option Addr} {ps : List (Int × Int)} (hE : Eye W b l) (hR : RdP W A ps) (hF : Frame [b] W W') : RdP W' A ps := by
 by_cases h0 : ps = []
 ·subst h0; exact RdP.nil _ _
 ·refine hF.rd hR fun g hg hm => ?_
  obtain ⟨g', o, e, hlt, hc, _⟩ := hR.at 0 (by cases ps with | nil => exact absurd rfl h0 | cons _ _ => simp)
  rw [hg] at e
  cases e
  simp only [List.mem_singleton] at hm
  subst hm
  have h1 : At W g' #[.string (txt l), .bool false] 188 := hE
  unfold At at h1
  simp only [Nat.zero_mul, Nat.add_zero] at hc
  rw [World.cell?] at hc
  simp [h1] at hc
  match o, hc with
  | 0, hc => simp at hc
  | 1, hc => simp at hc
  | o + 2, hc => simp at hc
theorem tens_eye (hT : TensAt w) (hE : Eye w b l) (hF : Frame [b] w W') : TensAt W' := by
 have hne : 0 ∉ [b] := fun hm => by
  simp only [List.mem_singleton] at hm
  have h1 : At w b #[.string (txt l), .bool false] 188 := hE
  have h2 := h1.cell (i := 0) rfl
  rw [← hm, hT.c0] at h2
  cases h2
 have hc : ∀ o, W'.cell? ⟨0, o, none⟩ = w.cell? ⟨0, o, none⟩ := fun o => World.cell?_of_block (w := w) (hF.block _ hT.lt hne)
 exact ⟨Nat.lt_of_lt_of_le hT.lt hF.size, (hc _).trans hT.c0, (hc _).trans hT.c1, (hc _).trans hT.c2, (hc _).trans hT.c3, (hc _).trans hT.c4⟩
theorem EyJ.step (h : EyJ w W b l) (hF : Frame S W W') (hS : ∀ k ∈ S, w.heap.size ≤ k) : EyJ w W' b l :=
 ⟨h.eye.frame hF (fun hm => by have := hS b hm; have := h.lt; omega), ⟨hF.os.trans h.fr.os, hF.tape.trans h.fr.tape, hF.output.trans h.fr.output, Nat.le_trans h.fr.size hF.size, fun j hj hn => (hF.block j (Nat.lt_of_lt_of_le hj h.fr.size) (fun hm => by have := hS j hm; omega)).trans (h.fr.block j hj hn)⟩, h.lt⟩
end
theorem Frame.set11 (w : World) (b : Nat) (v0 v1 v2 v3 v4 v5 v6 v7 v8 v9 v10 : Value) :
  Frame [b] w (((((((((((w.setCell ⟨b, 0, none⟩ v0).setCell ⟨b, 1, none⟩ v1).setCell ⟨b, 2, none⟩ v2).setCell ⟨b, 3, none⟩ v3).setCell ⟨b, 4, none⟩ v4).setCell ⟨b, 5, none⟩ v5).setCell ⟨b, 6, none⟩ v6).setCell ⟨b, 7, none⟩ v7).setCell ⟨b, 8, none⟩ v8).setCell ⟨b, 9, none⟩ v9).setCell ⟨b, 10, none⟩ v10) := by
 have hm : b ∈ [b] ∨ w.heap.size ≤ b := .inl (by simp)
 have k0 := Frame.setc (Frame.refl [b] w) hm 0 v0
 have k1 := Frame.setc k0 hm 1 v1
 have k2 := Frame.setc k1 hm 2 v2
 have k3 := Frame.setc k2 hm 3 v3
 have k4 := Frame.setc k3 hm 4 v4
 have k5 := Frame.setc k4 hm 5 v5
 have k6 := Frame.setc k5 hm 6 v6
 have k7 := Frame.setc k6 hm 7 v7
 have k8 := Frame.setc k7 hm 8 v8
 have k9 := Frame.setc k8 hm 9 v9
 have k10 := Frame.setc k9 hm 10 v10
 exact k10
theorem rdU_list (W : World) (us : List Nat) (vs : Array Value) (g : Nat) (hg : g = W.heap.size) (hv : vs = (us.map fun u : Nat => Value.int .u64 (u : Int)).toArray) : RdU (W.alloc (.cells vs 23)) (some ⟨g, 0, none⟩) (us.map fun u : Nat => (u : Int)) := by
 subst hg hv
 intro j u hj
 have a := At.new W (us.map fun u : Nat => Value.int .u64 (u : Int)).toArray 23
 refine ⟨W.heap.size, 0, rfl, a.lt, ?_⟩
 rw [Nat.zero_add]
 refine a.cell ?_
 rw [List.map_map] at hj
 simpa using hj
theorem rdI_list (W : World) (xs : List Int) (vs : Array Value) (g : Nat) (hg : g = W.heap.size) (hv : vs = (xs.map (Value.int .i64)).toArray) : RdI (W.alloc (.cells vs 2)) (some ⟨g, 0, none⟩) xs := by
 subst hg hv
 intro j u hj
 have a := At.new W (xs.map (Value.int .i64)).toArray 2
 refine ⟨W.heap.size, 0, rfl, a.lt, ?_⟩
 rw [Nat.zero_add]
 refine a.cell ?_
 simpa using hj
theorem sencode_at (b kn : Nat) (T : TypeId) (v : Value) (fn : FuncId) (load : List UInt8) (k1 k2 k3 k4 k5 k6 k7 k8 k9 k10 : Value) (w : World)
  (ha : At w b #[.int .i64 (kn : Int), k1, k2, k3, k4, k5, k6, k7, k8, k9, k10, .iface T v] 79) (m : MethC T v "ogive/suite.write" fn v) (hl : load.length ≤ 262144) (h0 : load ≠ []) (hk : kn < 256)
  (hW : ∀ W qb, Below w.heap.size w W → Qu W qb none 0 0 [] → w.heap.size ≤ qb → Calls Tryz.prog fn #[v, .pointer (some ⟨qb, 0, none⟩)] W fun e w' => e = .returned (.tuple #[]) ∧ ∃ W1 A len cap, Below W.heap.size W W1 ∧ QuI W1 w' qb none A len cap load) :
  Calls Tryz.prog 52 #[.pointer (some ⟨b, 0, none⟩)] w fun e w' => e = .returned (.tuple #[.string (txt (frameY kn load)), .int .i64 0]) ∧ Below w.heap.size w w' := by
 have hQ0 := QuB.new w
 have ha1 := ha.below (w' := w.alloc (.cells #[.slice none 0 0] 193)) ((Below.refl _ _).alloc (Nat.le_refl _) _)
 have f1 := ha1.tw
 have l1 := ha1.lt
 obtain ⟨m1, m2⟩ := m
 have HL := Lib.hid (And.intro hl (And.intro h0 hk))
 have HA := Lib.hid fun W (hb : Below w.heap.size w W) => ha.below hb
 have HW := Lib.hid hW
 clear hl h0 hk ha hW
 go_enter Tryz.func52, Tryz.ntmps52
 go_wp2_with fail
 obtain ⟨W1, hW1⟩ : ∃ W, w.alloc (.cells #[.slice none 0 0] 193) = W := ⟨_, rfl⟩
 obtain ⟨qb, hqb⟩ : ∃ r, w.heap.size = r := ⟨_, rfl⟩
 have HQB : Hid (w.heap.size = qb) := hqb
 rw [hW1] at hQ0 ha1 f1 l1
 rw [hqb] at hQ0
 simp only [hW1, hqb]
 have HQ0 := Lib.hid hQ0
 have HB1 : Hid (Below w.heap.size w W1) := by rw [← hW1]; exact (Below.refl _ _).alloc (Nat.le_refl _) _
 clear hW1 hqb hQ0
 refine (HW.out W1 qb HB1.out HQ0.out.qu (by have := HQB.out; omega)).mono ?_
 rintro e w2 ⟨rfl, W2, A, len, cap, hb, hq⟩
 have HQ2 : Hid (QuB w w2 qb A len cap load) := (HQ0.out.below hb).stepI (by
  have := hq
  exact this)
 have HB2 : Hid (Below w.heap.size w w2) := by
  have := HQ2.out.bl
  rw [← HQB.out] at this
  exact this
 have a2 := HA.out w2 HB2.out
 clear hb hq f1 l1 ha1 HW HB1 HQ0 m1 m2
 go_wp2_with fail
 have HTX := Lib.hid fun W (hb : Below w2.heap.size w2 W) => (qtext_any qb A len cap load W (HQ2.out.qu.below hb) HL.out.2.1).mono (R' := fun e w' => e = .returned (.string (txt load)) ∧ Below W.heap.size W w') (fun e w' h => ⟨h.1, h.2 ▸ Below.refl _ _⟩)
 have HCL := Lib.hid fun W => fclose_any kn load (txt load) W HL.out.2.2 rfl HL.out.1
 have hcv : IntKind.u8.wrap (kn : Int) = (kn : Int) := by
  have := HL.out.2.2
  simp only [IntKind.wrap_u8]
  omega
 have hfar1 := fun x : Far w2 => (x.at a2).tw
 refine wp_region_far (by kernel_rfl) (by kernel_rfl) ?_
 repeat go_big_quiet_step (first | (with_reducible refine far_of (HTX.out _ (Far.below _))) | (with_reducible refine far_of (HCL.out _)))
 refine wpQuiet_nil ?_
 rintro _ ⟨xq, rfl⟩
 clear hfar1
 have HFIN := Lib.hid (keep1 HB2.out xq.below)
 clear a2 HTX HCL HA HQ2 HB2
 go_wp2
 go_ret2
 exact ⟨rfl, HFIN.out⟩
theorem spart_any (eb u v : Nat) (rest : List UInt8) (w : World) (h : Eye w eb (natB u ++ (natB v ++ rest))) (hu : u ≤ 4294967296) (hv : v ≤ 4294967296) (hl : rest.length ≤ 90000000) :
  Calls Tryz.prog 81 #[.pointer (some ⟨eb, 0, none⟩)] w fun e w' => e = .returned (.agg #[.int .u64 (u : Int), .int .u64 (v : Int)]) ∧ Eye w' eb rest ∧ Frame [eb] w w' := by
 have hba : Below w.heap.size w (w.alloc (.cells #[.int .u64 0, .int .u64 0] 25)) := (Below.refl _ _).alloc (Nat.le_refl _) _
 have ar := At.new w #[.int .u64 0, .int .u64 0] 25
 have J0 := (EyJ.start h).below hba
 have HVL : Hid ((natB v).length ≤ 10) := natB_len (by omega)
 clear h
 go_enter Tryz.func81, Tryz.ntmps81
 go_wp2_with fail
 obtain ⟨W0, hW0⟩ : ∃ W, w.alloc (.cells #[.int .u64 0, .int .u64 0] 25) = W := ⟨_, rfl⟩
 obtain ⟨rb, hrb⟩ : ∃ r, w.heap.size = r := ⟨_, rfl⟩
 have HRB : Hid (w.heap.size = rb) := hrb
 rw [hW0] at J0 ar
 rw [hrb] at ar
 simp only [hW0, hrb]
 have HJ0 := Lib.hid J0
 have HA0 := Lib.hid ar
 clear hW0 hrb J0 ar hba
 refine (enat_any eb u 4294967296 _ W0 HJ0.out.eye (by omega) (by omega) (by rw [List.length_append]; have := HVL.out; omega)).mono ?_
 rintro e w1 ⟨rfl, hE, hF⟩
 have HJ1 := Lib.hid (HJ0.out.read hE hF)
 have HA1 := Lib.hid (HJ0.out.at HA0.out hF (by have := HRB.out; omega))
 clear hE hF HJ0 HA0
 go_wp2_with fail
 refine (enat_any eb v 4294967296 _ w1 HJ1.out.eye (by omega) (by omega) (by omega)).mono ?_
 rintro e w2 ⟨rfl, hE, hF⟩
 have HJ2 := Lib.hid (HJ1.out.read hE hF)
 have HA2 := Lib.hid (HJ1.out.at HA1.out hF (by have := HRB.out; omega))
 clear hE hF HJ1 HA1
 have g2 := HA2.out.two
 have m2 := HA2.out.lt
 go_wp2
 have d2 := (HA2.out.set2 (.int .u64 (u : Int)) (.int .u64 (v : Int))).two
 have hF2 := ((Frame.refl [rb] w2).setc (b := rb) (.inl (by simp)) 0 (.int .u64 (u : Int))).setc (b := rb) (.inl (by simp)) 1 (.int .u64 (v : Int))
 have HJF := Lib.hid (HJ2.out.own hF2 (by have := HRB.out; omega))
 exact bodyPost_ret (v := .agg #[.int .u64 (u : Int), .int .u64 (v : Int)]) (by simp only [results, Tryz.f81]; simp [go_sem, d2]) rfl ⟨rfl, HJF.out.eye, HJF.out.fr⟩
def RdR (eb : Nat) (cv : Value) (T : TypeId) (X : World → Nat → List Nat → Prop) (w : World) (e : Ending) (w' : World) : Prop :=
 ∃ q Q, e = .returned (.tuple #[cv, .iface T (.agg #[.pointer (some ⟨q, 0, none⟩)]), .bool true]) ∧ Within Q w.heap.size w'.heap.size ∧ X w' q Q ∧ Eye w' eb [] ∧ Frame [eb] w w'
def DecR (kd pn pd sd mo dg li de fa wi wo : Int) (T : TypeId) (X : World → Nat → List Nat → Prop) (w : World) (e : Ending) (w' : World) : Prop :=
 (∃ b q Q, e = .returned (.tuple #[.pointer (some ⟨b, 0, none⟩), .int .i64 0]) ∧ Within (b :: Q) w.heap.size w'.heap.size ∧ b ∉ Q ∧
  At w' b #[.int .i64 kd, .int .u64 pn, .int .u64 pd, .int .i64 sd, .int .i64 mo, .int .i64 dg, .int .u64 li, .int .i64 de, .int .i64 fa, .int .i64 wi, .int .u64 wo, .iface T (.agg #[.pointer (some ⟨q, 0, none⟩)])] 79 ∧ X w' q Q) ∧ Below w.heap.size w w'
def RdF (eb : Nat) (cv : Value) (T : TypeId) (X : World → Nat → List Nat → Prop) (w : World) (e : Ending) (w' : World) : Prop :=
 RdR eb cv T X w e w' ∨ (∃ v, e = .returned (.tuple #[cv, v, .bool false]) ∧ Frame [eb] w w')
def JnS (b o : Nat) (cs cs' : Array Value) (W : World) : Prop := At W b cs 79 ∧ At W o cs' 79
theorem JnS.at {b o : Nat} {cs cs' : Array Value} {W : World} (h : JnS b o cs cs' W) : At W b cs 79 ∧ At W o cs' 79 := h
theorem sput_at (b q : Nat) (T : TypeId) (fn : FuncId) (k0 k1 k2 k3 k4 k5 k6 k7 k8 k9 k10 : Value) (x n : Int) (w : World) (R : Int → World → Prop)
  (ha : At w b #[k0, k1, k2, k3, k4, k5, k6, k7, k8, k9, k10, .iface T (.agg #[.pointer (some ⟨q, 0, none⟩)])] 79) (m : MethC T (.agg #[.pointer (some ⟨q, 0, none⟩)]) "Put" fn (.pointer (some ⟨q, 0, none⟩)))
  (hR : Calls Tryz.prog fn #[.pointer (some ⟨q, 0, none⟩), .int .i64 x, .int .u64 n] w fun e w' => ∃ f, e = .returned (.int .i64 f) ∧ R f w') :
  Calls Tryz.prog 26 #[.pointer (some ⟨b, 0, none⟩), .int .i64 x, .int .u64 n] w fun e w' => ∃ f, e = .returned (.int .i64 f) ∧ R f w' := by
 have f1 := ha.tw
 have l1 := ha.lt
 obtain ⟨m1, m2⟩ := m
 have HR := Lib.hid hR
 clear ha hR
 go_enter Tryz.func26, Tryz.ntmps26
 go_wp2_with fail
 refine HR.out.mono ?_
 rintro e w1 ⟨f, rfl, hr⟩
 have HF := Lib.hid hr
 clear hr HR m1 m2 f1 l1
 go_wp2
 go_ret
 exact ⟨f, rfl, HF.out⟩
def JnP (b pb : Nat) (cs ds : Array Value) (W : World) : Prop := At W b cs 79 ∧ At W pb ds 25
theorem JnP.at {b pb : Nat} {cs ds : Array Value} {W : World} (h : JnP b pb cs ds W) : At W b cs 79 ∧ At W pb ds 25 := h
theorem squant_at (b q : Nat) (T : TypeId) (fn : FuncId) (k0 k1 k2 k3 k4 k5 k6 k7 k8 k9 k10 : Value) (p0 p1 : Int) (F : List Nat) (w : World) (R : World → Int → Int → World → Prop) (hF : ∀ j ∈ F, j < w.heap.size) (hbF : b ∉ F)
  (ha : At w b #[k0, k1, k2, k3, k4, k5, k6, k7, k8, k9, k10, .iface T (.agg #[.pointer (some ⟨q, 0, none⟩)])] 79) (m : MethC T (.agg #[.pointer (some ⟨q, 0, none⟩)]) "Quantile" fn (.pointer (some ⟨q, 0, none⟩)))
  (hR : ∀ W, Below w.heap.size w W → Calls Tryz.prog fn #[.pointer (some ⟨q, 0, none⟩), .agg #[.int .u64 p0, .int .u64 p1]] W fun e w' => ∃ x f, e = .returned (.tuple #[.int .i64 x, .int .i64 f]) ∧ Frame F W w' ∧ R W x f w') :
  Calls Tryz.prog 14 #[.pointer (some ⟨b, 0, none⟩), .agg #[.int .u64 p0, .int .u64 p1]] w fun e w' => ∃ x f, e = .returned (.tuple #[.int .i64 x, .int .i64 f]) ∧ ∃ W, Below w.heap.size w W ∧ Frame F W w' ∧ R W x f w' := by
 have hba : Below w.heap.size w (w.alloc (.cells #[.int .u64 p0, .int .u64 p1] 25)) := (Below.refl _ _).alloc (Nat.le_refl _) _
 have ap := At.new w #[.int .u64 p0, .int .u64 p1] 25
 have ha1 := ha.below hba
 obtain ⟨m1, m2⟩ := m
 have HR := Lib.hid hR
 have HF := Lib.hid (And.intro hF hbF)
 have l1 := ha1.lt
 clear ha hR hF hbF
 go_enter Tryz.func14, Tryz.ntmps14
 go_wp2_with fail
 obtain ⟨W1, hW1⟩ : ∃ W, w.alloc (.cells #[.int .u64 p0, .int .u64 p1] 25) = W := ⟨_, rfl⟩
 obtain ⟨pb, hpb⟩ : ∃ r, w.heap.size = r := ⟨_, rfl⟩
 have HPB : Hid (w.heap.size = pb) := hpb
 rw [hW1] at hba ha1 ap l1
 rw [hpb] at ap
 simp only [hW1, hpb]
 clear hW1 hpb
 have hbd : Below W1.heap.size W1 W1.drew := (Below.refl _ _).drew
 obtain ⟨W4, hW4⟩ : ∃ W, W1.drew = W := ⟨_, rfl⟩
 rw [hW4] at hbd
 have hK4 : JnP b pb #[k0, k1, k2, k3, k4, k5, k6, k7, k8, k9, k10, .iface T (.agg #[.pointer (some ⟨q, 0, none⟩)])] #[.int .u64 p0, .int .u64 p1] W4 := ⟨ha1.below hbd, ap.below hbd⟩
 have HB4 := Lib.hid (keep1 hba hbd)
 haveI hne : Nonempty (Held (JnP b pb #[k0, k1, k2, k3, k4, k5, k6, k7, k8, k9, k10, .iface T (.agg #[.pointer (some ⟨q, 0, none⟩)])] #[.int .u64 p0, .int .u64 p1])) := ⟨⟨W4, hK4⟩⟩
 have hfar1 := fun v : Held (JnP b pb #[k0, k1, k2, k3, k4, k5, k6, k7, k8, k9, k10, .iface T (.agg #[.pointer (some ⟨q, 0, none⟩)])] #[.int .u64 p0, .int .u64 p1]) => v.held.at.1.tw
 have hfar2 := fun v : Held (JnP b pb #[k0, k1, k2, k3, k4, k5, k6, k7, k8, k9, k10, .iface T (.agg #[.pointer (some ⟨q, 0, none⟩)])] #[.int .u64 p0, .int .u64 p1]) => v.held.at.2.two
 refine wp_region_noPanic ?_
 refine wp_region_held_drew (S := HeldS (JnP b pb #[k0, k1, k2, k3, k4, k5, k6, k7, k8, k9, k10, .iface T (.agg #[.pointer (some ⟨q, 0, none⟩)])] #[.int .u64 p0, .int .u64 p1])) (by kernel_rfl) (by rw [hW4]; exact HeldS.mk' hK4) (fun hHeld => ?_)
 rw [hW4] at hHeld ⊢
 have HK4 := Lib.hid hK4
 clear hW4 hK4 hbd hba ha1 ap l1
 refine runH [5] 5 hHeld ?_
 simp only [runL, runN, runOps_true, runOps_false, runOps_nil]
 repeat go_big_quiet_step (fail)
 refine wpQuiet_nil ?_
 clear hfar1 hfar2
 refine readyH 5 fun K hK => ?_
 go_simp
 refine (HR.out W4 HB4.out).mono ?_
 rintro e w5 ⟨x, f, rfl, hFr, hr⟩
 refine hK.out _ _ ?_ (fun hHeld => ?_)
 clear hK K
 ·exact HeldS.mk' ⟨hFr.at HK4.out.1 HF.out.2, hFr.at HK4.out.2 fun hm => by have := HF.out.1 _ hm; have := HPB.out; omega⟩
 have HFR := Lib.hid (And.intro HB4.out (And.intro hFr hr))
 clear hFr hr
 refine runH [0, 6, 4] 0 hHeld ?_
 simp only [runL, runN, runOps_true, runOps_false, runOps_nil]
 repeat go_big_quiet_step (fail)
 refine wpQuiet_nil ?_
 refine wpAnyH_done (by kernel_rfl) ?_ _
 refine NoPanic.normal ?_
 clear hne hHeld m1 m2
 go_wp2
 go_ret2
 exact ⟨x, f, rfl, W4, HFR.out⟩
theorem sjoin_at (b o q r : Nat) (T : TypeId) (fn : FuncId) (kd : Int) (k1 k2 k3 k4 k5 k6 k7 k8 k9 k10 j1 j2 j3 j4 j5 j6 j7 j8 j9 j10 : Value) (F : List Nat) (P : World → Int → World → Prop) (w : World) (ha : At w b #[.int .i64 kd, k1, k2, k3, k4, k5, k6, k7, k8, k9, k10, .iface T (.agg #[.pointer (some ⟨q, 0, none⟩)])] 79) (ho : At w o #[.int .i64 kd, j1, j2, j3, j4, j5, j6, j7, j8, j9, j10, .iface T (.agg #[.pointer (some ⟨r, 0, none⟩)])] 79) (hbF : b ∉ F) (hoF : o ∉ F)
  (m : MethC T (.agg #[.pointer (some ⟨q, 0, none⟩)]) "ogive/suite.join" fn (.agg #[.pointer (some ⟨q, 0, none⟩)]))
  (hJ : ∀ W, Below w.heap.size w W → Calls Tryz.prog fn #[.agg #[.pointer (some ⟨q, 0, none⟩)], .iface T (.agg #[.pointer (some ⟨r, 0, none⟩)])] W fun e w' => ∃ f, e = .returned (.int .i64 f) ∧ ∃ W2, Below w.heap.size w W2 ∧ Frame F W2 w' ∧ P W2 f w') :
  Calls Tryz.prog 28 #[.pointer (some ⟨b, 0, none⟩), .pointer (some ⟨o, 0, none⟩)] w fun e w' => ∃ f, e = .returned (.int .i64 f) ∧ ∃ W, Below w.heap.size w W ∧ Frame F W w' ∧ P W f w' := by
 have f1 := ha.tw
 have l1 := ha.lt
 have f2 := ho.tw
 have l2 := ho.lt
 have HA := Lib.hid ha
 have HO := Lib.hid ho
 have HJ := Lib.hid hJ
 have HN := Lib.hid (And.intro hbF hoF)
 obtain ⟨m1, m2⟩ := m
 have hkk : (kd == kd) = true := beq_self_eq_true kd
 clear hJ ha ho hbF hoF
 go_enter Tryz.func28, Tryz.ntmps28
 go_wp2
 go_quiet (fail)
 go_wp2
 have hbd : Below w.heap.size w (w.drewN nq).drew := ((Below.refl _ _).drewN nq).drew
 obtain ⟨W3, hW3⟩ : ∃ W, w.drewN nq = W := ⟨_, rfl⟩
 rw [hW3] at hbd
 simp only [hW3]
 clear hW3
 obtain ⟨W4, hW4⟩ : ∃ W, W3.drew = W := ⟨_, rfl⟩
 rw [hW4] at hbd
 have hK4 : JnS b o #[.int .i64 kd, k1, k2, k3, k4, k5, k6, k7, k8, k9, k10, .iface T (.agg #[.pointer (some ⟨q, 0, none⟩)])] #[.int .i64 kd, j1, j2, j3, j4, j5, j6, j7, j8, j9, j10, .iface T (.agg #[.pointer (some ⟨r, 0, none⟩)])] W4 := ⟨HA.out.below hbd, HO.out.below hbd⟩
 have HB4 := Lib.hid hbd
 haveI hne : Nonempty (Held (JnS b o #[.int .i64 kd, k1, k2, k3, k4, k5, k6, k7, k8, k9, k10, .iface T (.agg #[.pointer (some ⟨q, 0, none⟩)])] #[.int .i64 kd, j1, j2, j3, j4, j5, j6, j7, j8, j9, j10, .iface T (.agg #[.pointer (some ⟨r, 0, none⟩)])])) := ⟨⟨W4, hK4⟩⟩
 have hfar1 := fun v : Held (JnS b o #[.int .i64 kd, k1, k2, k3, k4, k5, k6, k7, k8, k9, k10, .iface T (.agg #[.pointer (some ⟨q, 0, none⟩)])] #[.int .i64 kd, j1, j2, j3, j4, j5, j6, j7, j8, j9, j10, .iface T (.agg #[.pointer (some ⟨r, 0, none⟩)])]) => v.held.at.1.tw
 have hfar2 := fun v : Held (JnS b o #[.int .i64 kd, k1, k2, k3, k4, k5, k6, k7, k8, k9, k10, .iface T (.agg #[.pointer (some ⟨q, 0, none⟩)])] #[.int .i64 kd, j1, j2, j3, j4, j5, j6, j7, j8, j9, j10, .iface T (.agg #[.pointer (some ⟨r, 0, none⟩)])]) => v.held.at.2.tw
 refine wp_region_noPanic ?_
 refine wp_region_held_drew (S := HeldS (JnS b o #[.int .i64 kd, k1, k2, k3, k4, k5, k6, k7, k8, k9, k10, .iface T (.agg #[.pointer (some ⟨q, 0, none⟩)])] #[.int .i64 kd, j1, j2, j3, j4, j5, j6, j7, j8, j9, j10, .iface T (.agg #[.pointer (some ⟨r, 0, none⟩)])])) (by kernel_rfl) (by rw [hW4]; exact HeldS.mk' hK4) (fun hHeld => ?_)
 rw [hW4] at hHeld ⊢
 have HK4 := Lib.hid hK4
 clear hW4 hK4 hbd f1 f2 l1 l2
 refine runH [8] 4 hHeld ?_
 simp only [runL, runN, runOps_true, runOps_false, runOps_nil]
 repeat go_big_quiet_step (fail)
 refine wpQuiet_nil ?_
 refine readyH 8 fun K hK => ?_
 go_simp
 refine hK.out _ _ (HeldS.mk' HK4.out) (fun hHeld => ?_)
 clear hK K
 refine runH [0, 9, 1] 2 hHeld ?_
 simp only [runL, runN, runOps_true, runOps_false, runOps_nil]
 repeat go_big_quiet_step (fail)
 refine wpQuiet_nil ?_
 clear hfar1 hfar2
 refine readyH 10 fun K hK => ?_
 go_simp
 refine (HJ.out W4 HB4.out).mono ?_
 rintro e w5 ⟨f, rfl, W2, hB2, hFr, hR⟩
 refine hK.out _ _ ?_ (fun hHeld => ?_)
 clear hK K
 ·exact HeldS.mk' ⟨hFr.at (HA.out.below hB2) HN.out.1, hFr.at (HO.out.below hB2) HN.out.2⟩
 have HR := Lib.hid (And.intro hB2 (And.intro hFr hR))
 clear hB2 hFr hR
 refine runH [0, 11, 1] 0 hHeld ?_
 simp only [runL, runN, runOps_true, runOps_false, runOps_nil]
 repeat go_big_quiet_step (fail)
 refine wpQuiet_nil ?_
 refine wpAnyH_done (by kernel_rfl) ?_ _
 refine NoPanic.normal ?_
 clear hne hHeld m1 m2
 go_wp2
 go_ret
 exact ⟨f, rfl, W2, HR.out⟩
def NwR (kd pn pd sd mo dg li de fa wi wo : Int) (T : TypeId) (X : World → Nat → List Nat → Prop) (G : Prop) (w : World) (e : Ending) (w' : World) : Prop :=
  ((∃ b q Q, e = .returned (.tuple #[.pointer (some ⟨b, 0, none⟩), .int .i64 0]) ∧ Within (b :: Q) w.heap.size w'.heap.size ∧ b ∉ Q ∧
    At w' b #[.int .i64 kd, .int .u64 pn, .int .u64 pd, .int .i64 sd, .int .i64 mo, .int .i64 dg, .int .u64 li, .int .i64 de, .int .i64 fa, .int .i64 wi, .int .u64 wo, .iface T (.agg #[.pointer (some ⟨q, 0, none⟩)])] 79 ∧ X w' q Q) ∨ (∃ f : Int, (f ≠ 0 ∧ G) ∧ e = .returned (.tuple #[.pointer none, .int .i64 f]))) ∧ Below w.heap.size w w'
theorem sknew_at (kd pn pd sd mo dg li de fa wi wo : Int) (T : TypeId) (X : World → Nat → List Nat → Prop) (G : Prop) (cz : Value) (hX : ∀ W W' q Q S, X W q Q → Frame S W W' → Apart Q S → X W' q Q) (w : World)
  (hB : ∀ W, Calls Tryz.prog 36 #[.agg #[.int .i64 kd, .int .u64 pn, .int .u64 pd, .int .i64 sd, .int .i64 mo, .int .i64 dg, .int .u64 li, .int .i64 de, .int .i64 fa, .int .i64 wi, .int .u64 wo]] W fun e w' => e = .returned (.agg #[.int .i64 kd, .int .u64 pn, .int .u64 pd, .int .i64 sd, .int .i64 mo, .int .i64 dg, .int .u64 li, .int .i64 de, .int .i64 fa, .int .i64 wi, .int .u64 wo]) ∧ Below W.heap.size W w')
  (hFr : ∀ W, Below w.heap.size w W → Calls Tryz.prog 37 #[.agg #[.int .i64 kd, .int .u64 pn, .int .u64 pd, .int .i64 sd, .int .i64 mo, .int .i64 dg, .int .u64 li, .int .i64 de, .int .i64 fa, .int .i64 wi, .int .u64 wo]] W fun e w' => ((∃ q Q, e = .returned (.tuple #[.iface T (.agg #[.pointer (some ⟨q, 0, none⟩)]), .int .i64 0]) ∧ Within Q W.heap.size w'.heap.size ∧ X w' q Q) ∨ (∃ f : Int, (f ≠ 0 ∧ G) ∧ e = .returned (.tuple #[cz, .int .i64 f]))) ∧ Below W.heap.size W w') :
  Calls Tryz.prog 25 #[.agg #[.int .i64 kd, .int .u64 pn, .int .u64 pd, .int .i64 sd, .int .i64 mo, .int .i64 dg, .int .u64 li, .int .i64 de, .int .i64 fa, .int .i64 wi, .int .u64 wo]] w fun e w' => NwR kd pn pd sd mo dg li de fa wi wo T X G w e w' := by
 have HBR := Lib.hid hB
 have HFR := Lib.hid hFr
 have HX := Lib.hid hX
 have hba : Below w.heap.size w (w.alloc (.cells #[.int .i64 kd, .int .u64 pn, .int .u64 pd, .int .i64 sd, .int .i64 mo, .int .i64 dg, .int .u64 li, .int .i64 de, .int .i64 fa, .int .i64 wi, .int .u64 wo] 28)) := (Below.refl _ _).alloc (Nat.le_refl _) _
 have s0 := At.new w #[.int .i64 kd, .int .u64 pn, .int .u64 pd, .int .i64 sd, .int .i64 mo, .int .i64 dg, .int .u64 li, .int .i64 de, .int .i64 fa, .int .i64 wi, .int .u64 wo] 28
 clear hB hFr hX
 go_enter Tryz.func25, Tryz.ntmps25
 go_wp2_with fail
 obtain ⟨W1, hW1⟩ : ∃ W, w.alloc (.cells #[.int .i64 kd, .int .u64 pn, .int .u64 pd, .int .i64 sd, .int .i64 mo, .int .i64 dg, .int .u64 li, .int .i64 de, .int .i64 fa, .int .i64 wi, .int .u64 wo] 28) = W := ⟨_, rfl⟩
 obtain ⟨cb, hcb⟩ : ∃ r, w.heap.size = r := ⟨_, rfl⟩
 have HCB := Lib.hid hcb
 rw [hW1] at hba s0
 rw [hcb] at s0
 simp only [hW1, hcb]
 clear hW1 hcb
 have hfar1 := fun x : Far W1 => (x.at s0).el
 refine wp_region_far (by kernel_rfl) (by kernel_rfl) ?_
 repeat go_big_quiet_step (first | (with_reducible refine far_of (HBR.out _)))
 refine wpQuiet_nil ?_
 rintro _ ⟨xq, rfl⟩
 clear hfar1
 have hbf := xq.below
 obtain ⟨W2, hW2⟩ : ∃ W, xq.far = W := ⟨_, rfl⟩
 rw [hW2] at hbf ⊢
 have s2 := s0.below hbf
 have f2 := s2.el
 have l2 := s2.lt
 have HB2 := Lib.hid (keep1 hba hbf)
 clear hba hbf hW2 s0
 go_wp2_with fail
 refine (HFR.out W2 HB2.out).mono ?_
 rintro e w3 ⟨⟨q, Q, rfl, hW, hL⟩ | ⟨f, hf, rfl⟩, hb⟩
 ·have HB3 := Lib.hid (keep1 HB2.out hb)
  have s3 := s2.below hb
  have f3 := s3.el
  have l3 := s3.lt
  have HLT : Hid (∀ j ∈ Q, j < w3.heap.size) := fun j hj => (hW j hj).2
  have hbe : Below w3.heap.size w3 (w3.alloc (.cells #[.int .i64 kd, .int .u64 pn, .int .u64 pd, .int .i64 sd, .int .i64 mo, .int .i64 dg, .int .u64 li, .int .i64 de, .int .i64 fa, .int .i64 wi, .int .u64 wo, .iface T (.agg #[.pointer (some ⟨q, 0, none⟩)])] 79)) := (Below.refl _ _).alloc (Nat.le_refl _) _
  have HNB : Hid (w3.heap.size ∉ Q) := fun hm => by have := HLT.out _ hm; omega
  have HAT := Lib.hid (At.new w3 #[.int .i64 kd, .int .u64 pn, .int .u64 pd, .int .i64 sd, .int .i64 mo, .int .i64 dg, .int .u64 li, .int .i64 de, .int .i64 fa, .int .i64 wi, .int .u64 wo, .iface T (.agg #[.pointer (some ⟨q, 0, none⟩)])] 79)
  have HWI : Hid (Within (w3.heap.size :: Q) w.heap.size (w3.alloc (.cells #[.int .i64 kd, .int .u64 pn, .int .u64 pd, .int .i64 sd, .int .i64 mo, .int .i64 dg, .int .u64 li, .int .i64 de, .int .i64 fa, .int .i64 wi, .int .u64 wo, .iface T (.agg #[.pointer (some ⟨q, 0, none⟩)])] 79)).heap.size) := fun j hj => by
   rcases List.mem_cons.1 hj with rfl | hj
   ·exact ⟨HB3.out.size, HAT.out.lt⟩
   ·exact ⟨Nat.le_trans HB2.out.size (hW j hj).1, Nat.lt_of_lt_of_le (hW j hj).2 hbe.size⟩
  have HSK : Hid (X (w3.alloc (.cells #[.int .i64 kd, .int .u64 pn, .int .u64 pd, .int .i64 sd, .int .i64 mo, .int .i64 dg, .int .u64 li, .int .i64 de, .int .i64 fa, .int .i64 wi, .int .u64 wo, .iface T (.agg #[.pointer (some ⟨q, 0, none⟩)])] 79)) q Q) := HX.out _ _ _ _ [] hL (Frame.of_below hbe) (fun _ _ => by simp)
  have HFIN := Lib.hid (keep1 HB3.out hbe)
  clear hb hW hL hbe s2 s3 f2 l2
  go_wp2
  go_ret2
  exact ⟨.inl ⟨_, q, Q, rfl, HWI.out, HNB.out, HAT.out, HSK.out⟩, HFIN.out⟩
 ·have HF := Lib.hid hf
  have hfz : (f == 0) = false := beq_eq_false_iff_ne.2 hf.1
  have HB3 := Lib.hid (keep1 HB2.out hb)
  clear hb hf f2 l2 s2
  go_wp2
  go_ret2
  exact ⟨.inr ⟨f, HF.out, rfl⟩, HB3.out⟩
theorem sknew_not (kd pn pd sd mo dg li de fa wi wo b1 b2 b3 b4 b5 b6 b7 b8 b9 b10 : Int) (w : World)
  (hB : ∀ W, Calls Tryz.prog 36 #[.agg #[.int .i64 kd, .int .u64 pn, .int .u64 pd, .int .i64 sd, .int .i64 mo, .int .i64 dg, .int .u64 li, .int .i64 de, .int .i64 fa, .int .i64 wi, .int .u64 wo]] W fun e w' => e = .returned (.agg #[.int .i64 kd, .int .u64 b1, .int .u64 b2, .int .i64 b3, .int .i64 b4, .int .i64 b5, .int .u64 b6, .int .i64 b7, .int .i64 b8, .int .i64 b9, .int .u64 b10]) ∧ Below W.heap.size W w')
  (hne : ∀ W, (binOp .neq 28 (.agg #[.int .i64 kd, .int .u64 pn, .int .u64 pd, .int .i64 sd, .int .i64 mo, .int .i64 dg, .int .u64 li, .int .i64 de, .int .i64 fa, .int .i64 wi, .int .u64 wo]) (.agg #[.int .i64 kd, .int .u64 b1, .int .u64 b2, .int .i64 b3, .int .i64 b4, .int .i64 b5, .int .u64 b6, .int .i64 b7, .int .i64 b8, .int .i64 b9, .int .u64 b10])).run Tryz.prog W = .ok (.bool true) W) :
  Calls Tryz.prog 25 #[.agg #[.int .i64 kd, .int .u64 pn, .int .u64 pd, .int .i64 sd, .int .i64 mo, .int .i64 dg, .int .u64 li, .int .i64 de, .int .i64 fa, .int .i64 wi, .int .u64 wo]] w fun e w' => e = .returned (.tuple #[.pointer none, .int .i64 1]) ∧ Below w.heap.size w w' := by
 have HBR := Lib.hid hB
 have hba : Below w.heap.size w (w.alloc (.cells #[.int .i64 kd, .int .u64 pn, .int .u64 pd, .int .i64 sd, .int .i64 mo, .int .i64 dg, .int .u64 li, .int .i64 de, .int .i64 fa, .int .i64 wi, .int .u64 wo] 28)) := (Below.refl _ _).alloc (Nat.le_refl _) _
 have s0 := At.new w #[.int .i64 kd, .int .u64 pn, .int .u64 pd, .int .i64 sd, .int .i64 mo, .int .i64 dg, .int .u64 li, .int .i64 de, .int .i64 fa, .int .i64 wi, .int .u64 wo] 28
 clear hB
 go_enter Tryz.func25, Tryz.ntmps25
 go_wp2_with fail
 obtain ⟨W1, hW1⟩ : ∃ W, w.alloc (.cells #[.int .i64 kd, .int .u64 pn, .int .u64 pd, .int .i64 sd, .int .i64 mo, .int .i64 dg, .int .u64 li, .int .i64 de, .int .i64 fa, .int .i64 wi, .int .u64 wo] 28) = W := ⟨_, rfl⟩
 obtain ⟨pb, hpb⟩ : ∃ r, w.heap.size = r := ⟨_, rfl⟩
 have HPB := Lib.hid hpb
 rw [hW1] at hba s0
 rw [hpb] at s0
 simp only [hW1, hpb]
 clear hW1 hpb
 have hfar1 := fun x : Far W1 => (x.at s0).el
 refine wp_region_far (by kernel_rfl) (by kernel_rfl) ?_
 repeat go_big_quiet_step (first | (with_reducible refine far_of (HBR.out _)))
 refine wpQuiet_nil ?_
 rintro _ ⟨xq, rfl⟩
 clear hfar1
 have hbf := xq.below
 have HB2 := Lib.hid (keep1 hba hbf)
 clear hba hbf s0 hne
 go_wp2
 go_ret2
 exact ⟨rfl, HB2.out⟩
theorem sdecode_or (kn : Nat) (load : List UInt8) (kd pn pd sd mo dg li de fa wi wo : Int) (T : TypeId) (X : World → Nat → List Nat → Prop) (hX : ∀ W W' q Q S, X W q Q → Frame S W W' → Apart Q S → X W' q Q) (w : World) (hT : TensAt w) (hk : kn < 256) (hl : load.length ≤ 262144)
  (hR : ∀ W eb, TensAt W → Eye W eb load → Calls Tryz.prog 50 #[.int .i64 (kn : Int), .pointer (some ⟨eb, 0, none⟩)] W fun e w' => RdF eb (.agg #[.int .i64 kd, .int .u64 pn, .int .u64 pd, .int .i64 sd, .int .i64 mo, .int .i64 dg, .int .u64 li, .int .i64 de, .int .i64 fa, .int .i64 wi, .int .u64 wo]) T X W e w') :
  Calls Tryz.prog 38 #[.string (txt (frameY kn load))] w fun e w' => DecR kd pn pd sd mo dg li de fa wi wo T X w e w' ∨ ((∃ f : Int, f ≠ 0 ∧ e = .returned (.tuple #[.pointer none, .int .i64 f])) ∧ Below w.heap.size w w') := by
 have HR := Lib.hid hR
 have HX := Lib.hid hX
 have HT := Lib.hid hT
 have HO := Lib.hid (fopen_any kn load w hk hl)
 have hcv : IntKind.i64.wrap (kn : Int) = (kn : Int) := by simp only [IntKind.wrap_i64]; omega
 obtain ⟨st, hst⟩ : ∃ s, txt (frameY kn load) = s := ⟨_, rfl⟩
 rw [hst] at HO ⊢
 clear hst hR hX hT hk hl
 go_enter Tryz.func38, Tryz.ntmps38
 go_wp2_with fail
 refine HO.out.mono ?_
 rintro e w1 ⟨rfl, hb⟩
 have HB1 := Lib.hid hb
 clear hb HO
 go_wp2_with fail
 refine (eon_any load w1).mono ?_
 rintro e w2 ⟨rfl, hE, hb⟩
 have HB2 := Lib.hid (keep1 HB1.out hb)
 have HB12 := Lib.hid hb
 have HE2 := Lib.hid hE
 have HR2 := Lib.hid (HR.out w2 _ (HT.out.below HB2.out) hE)
 have HSZ : Hid (w.heap.size ≤ w1.heap.size) := HB1.out.size
 obtain ⟨eb, heb⟩ : ∃ r, w1.heap.size = r := ⟨_, rfl⟩
 rw [heb] at HE2 HR2 HSZ
 simp only [heb]
 clear hb hE HR heb
 go_wp2_with fail
 refine HR2.out.mono ?_
 rintro e w3 (⟨q, Q, rfl, hQ, hx, hE, hF⟩ | ⟨v, rfl, hF⟩)
 rotate_left
 ·have HB3 : Hid (Below w.heap.size w (w3.alloc (.cells #[.int .i64 kd, .int .u64 pn, .int .u64 pd, .int .i64 sd, .int .i64 mo, .int .i64 dg, .int .u64 li, .int .i64 de, .int .i64 fa, .int .i64 wi, .int .u64 wo] 28))) := keep1 (hF.below HB2.out HB2.out.size (fun k hk => by simp only [List.mem_singleton] at hk; subst hk; exact HSZ.out)) ((Below.refl _ _).alloc (Nat.le_refl _) _)
  clear hF HR2 HE2
  go_wp2
  go_ret2
  exact .inr ⟨⟨4, by omega, rfl⟩, HB3.out⟩
 have HB3 : Hid (Below w.heap.size w w3) := hF.below HB2.out HB2.out.size (fun k hk => by simp only [List.mem_singleton] at hk; subst hk; exact HSZ.out)
 have hbe : Below w3.heap.size w3 (w3.alloc (.cells #[.int .i64 kd, .int .u64 pn, .int .u64 pd, .int .i64 sd, .int .i64 mo, .int .i64 dg, .int .u64 li, .int .i64 de, .int .i64 fa, .int .i64 wi, .int .u64 wo] 28)) := (Below.refl _ _).alloc (Nat.le_refl _) _
 have HQ4 : Hid (Within Q w.heap.size (w3.alloc (.cells #[.int .i64 kd, .int .u64 pn, .int .u64 pd, .int .i64 sd, .int .i64 mo, .int .i64 dg, .int .u64 li, .int .i64 de, .int .i64 fa, .int .i64 wi, .int .u64 wo] 28)).heap.size) := fun j hj => ⟨Nat.le_trans HB2.out.size (hQ j hj).1, Nat.lt_of_lt_of_le (hQ j hj).2 hbe.size⟩
 have HX4 := Lib.hid (HX.out _ _ _ _ [] hx (Frame.of_below hbe) (fun _ _ => by simp))
 have HE4 := Lib.hid (hE.below hbe)
 have HC4 := Lib.hid (At.new w3 #[.int .i64 kd, .int .u64 pn, .int .u64 pd, .int .i64 sd, .int .i64 mo, .int .i64 dg, .int .u64 li, .int .i64 de, .int .i64 fa, .int .i64 wi, .int .u64 wo] 28)
 have HB4 := Lib.hid (keep1 HB3.out hbe)
 clear hQ hx hE hF hbe HR2 HE2
 go_wp2_with fail
 obtain ⟨W4, hW4⟩ : ∃ W, w3.alloc (.cells #[.int .i64 kd, .int .u64 pn, .int .u64 pd, .int .i64 sd, .int .i64 mo, .int .i64 dg, .int .u64 li, .int .i64 de, .int .i64 fa, .int .i64 wi, .int .u64 wo] 28) = W := ⟨_, rfl⟩
 obtain ⟨cb, hcb⟩ : ∃ r, w3.heap.size = r := ⟨_, rfl⟩
 rw [hW4] at HQ4 HX4 HE4 HC4 HB4
 rw [hcb] at HC4
 simp only [hW4, hcb]
 clear hW4 hcb
 refine (eover_any eb W4 HE4.out).mono ?_
 rintro e w5 ⟨rfl, rfl⟩
 have f4 := HC4.out.el
 have l4 := HC4.out.lt
 have hbe : Below W4.heap.size W4 (W4.alloc (.cells #[.int .i64 kd, .int .u64 pn, .int .u64 pd, .int .i64 sd, .int .i64 mo, .int .i64 dg, .int .u64 li, .int .i64 de, .int .i64 fa, .int .i64 wi, .int .u64 wo, .iface T (.agg #[.pointer (some ⟨q, 0, none⟩)])] 79)) := (Below.refl _ _).alloc (Nat.le_refl _) _
 have HFIN : Hid (DecR kd pn pd sd mo dg li de fa wi wo T X w (.returned (.tuple #[.pointer (some ⟨W4.heap.size, 0, none⟩), .int .i64 0])) (W4.alloc (.cells #[.int .i64 kd, .int .u64 pn, .int .u64 pd, .int .i64 sd, .int .i64 mo, .int .i64 dg, .int .u64 li, .int .i64 de, .int .i64 fa, .int .i64 wi, .int .u64 wo, .iface T (.agg #[.pointer (some ⟨q, 0, none⟩)])] 79))) := by
  refine ⟨⟨_, q, Q, rfl, fun j hj => ?_, fun hm => by have := (HQ4.out _ hm).2; omega, At.new _ _ _, HX.out _ _ _ _ [] HX4.out (Frame.of_below hbe) (fun _ _ => by simp)⟩, keep1 HB4.out hbe⟩
  rcases List.mem_cons.1 hj with rfl | hj
  ·exact ⟨HB4.out.size, by simp⟩
  ·exact ⟨(HQ4.out j hj).1, Nat.lt_of_lt_of_le (HQ4.out j hj).2 hbe.size⟩
 clear hbe
 go_wp2
 go_ret2
 exact .inl HFIN.out
theorem nats_ne (a : Nat) (l : List Nat) (r : List UInt8) : natsB (a :: l) ++ r ≠ [] := by
 intro h
 have h1 : (natsB (a :: l)).length = 0 := by
  have := congrArg List.length h
  rw [List.length_append] at this
  simp only [List.length_nil] at this
  omega
 have h2 : natB a = [] := by
  unfold natsB at h1
  simp only [List.flatMap_cons, List.length_append] at h1
  exact List.eq_nil_of_length_eq_zero (by omega)
 obtain ⟨c, hc, _, hcase⟩ := natB_cons a
 rcases hcase with ⟨_, _, _, h⟩ | ⟨_, _, h⟩ <;> (rw [h] at h2; simp at h2)
def CodeR (Sk : SkT) (l : List (Int × Int)) (w : World) (e : Ending) (w' : World) : Prop := ∃ (st : ByteArray) (f : Int), e = .returned (.tuple #[.string st, .int .i64 f]) ∧ Below w.heap.size w w' ∧
  ∀ W, TensAt W → Calls Tryz.prog 38 #[.string st] W (NewSk Sk l W)
end Go.Proofs.YtlbnlmhcpephbaaGreatDoor

namespace Go.Proofs.YtlbnlmhcpephbaaGreatDoor
open Go.RowKit
set_option maxRecDepth 100000
set_option maxHeartbeats 1000000
inductive Kd | log | hdr | dig | gre | req | lum
abbrev Kd.T : Kd → TypeId | .log => 105 | .hdr => 112 | .dig => 119 | .gre => 124 | .req => 131 | .lum => 136
abbrev Kd.n : Kd → Nat | .log => 1 | .hdr => 2 | .dig => 3 | .gre => 4 | .req => 5 | .lum => 6
abbrev Kd.put : Kd → FuncId | .log => 181 | .hdr => 214 | .dig => 231 | .gre => 271 | .req => 319 | .lum => 357
abbrev Kd.ends : Kd → FuncId | .log => 180 | .hdr => 213 | .dig => 230 | .gre => 269 | .req => 318 | .lum => 356
abbrev Kd.join : Kd → FuncId | .log => 198 | .hdr => 225 | .dig => 266 | .gre => 309 | .req => 351 | .lum => 376
abbrev Kd.sum : Kd → FuncId | .log => 103 | .hdr => 107 | .dig => 128 | .gre => 273 | .req => 321 | .lum => 359
abbrev Kd.ctot : Kd → FuncId | .log => 196 | .hdr => 223 | .dig => 264 | .gre => 307 | .req => 349 | .lum => 374
abbrev Kd.cjoin : Kd → FuncId | .log => 194 | .hdr => 221 | .dig => 262 | .gre => 305 | .req => 347 | .lum => 372
abbrev Kd.cwrite : Kd → FuncId | .log => 197 | .hdr => 224 | .dig => 265 | .gre => 308 | .req => 350 | .lum => 375
abbrev Kd.read : Kd → FuncId | .log => 67 | .hdr => 68 | .dig => 69 | .gre => 70 | .req => 71 | .lum => 72
abbrev pt (q : Nat) : Value := .pointer (some ⟨q, 0, none⟩)
section
variable (k : Kd) (q : Nat)
theorem m_put : MethC k.T (.agg #[pt q]) "Put" k.put (pt q) := by cases k <;> exact ⟨fun w => by kernel_rfl, fun a w => by kernel_rfl⟩
theorem m_ends : MethC k.T (.agg #[pt q]) "Ends" k.ends (pt q) := by cases k <;> exact ⟨fun w => by kernel_rfl, fun a w => by kernel_rfl⟩
theorem m_tot : MethC k.T (.agg #[pt q]) "ogive/suite.total" k.ctot (.agg #[pt q]) := by cases k <;> exact ⟨fun w => by kernel_rfl, fun a w => by kernel_rfl⟩
theorem m_join : MethC k.T (.agg #[pt q]) "ogive/suite.join" k.cjoin (.agg #[pt q]) := by cases k <;> exact ⟨fun w => by kernel_rfl, fun a w => by kernel_rfl⟩
theorem m_write : MethC k.T (.agg #[pt q]) "ogive/suite.write" k.cwrite (.agg #[pt q]) := by cases k <;> exact ⟨fun w => by kernel_rfl, fun a w => by kernel_rfl⟩
end
theorem stotal_at (b q : Nat) (T : TypeId) (fn : FuncId) (n : Int) (k0 k1 k2 k3 k4 k5 k6 k7 k8 k9 k10 : Value) (w : World)
  (ha : At w b #[k0, k1, k2, k3, k4, k5, k6, k7, k8, k9, k10, .iface T (.agg #[pt q])] 79) (m : MethC T (.agg #[pt q]) "ogive/suite.total" fn (.agg #[pt q]))
  (hR : Calls Tryz.prog fn #[.agg #[pt q]] w fun e w' => e = .returned (.int .u64 n) ∧ Below w.heap.size w w') :
  Calls Tryz.prog 24 #[pt b] w fun e w' => e = .returned (.int .u64 n) ∧ Below w.heap.size w w' := by
 have f1 := ha.tw
 have l1 := ha.lt
 obtain ⟨m1, m2⟩ := m
 have HR := Lib.hid hR
 clear ha hR
 go_enter Tryz.func24, Tryz.ntmps24
 go_wp2_with fail
 refine HR.out.mono ?_
 rintro e w1 ⟨rfl, hr⟩
 have HF := Lib.hid hr
 clear hr HR m1 m2 f1 l1
 go_wp2
 go_ret
 exact ⟨rfl, HF.out⟩
def endW (n lo hi : Int) : Value := if n = 0 then .tuple #[.int .i64 0, .int .i64 0, .bool false] else .tuple #[.int .i64 lo, .int .i64 hi, .bool true]
theorem sends_at (b q : Nat) (T : TypeId) (fn : FuncId) (n lo hi : Int) (k0 k1 k2 k3 k4 k5 k6 k7 k8 k9 k10 : Value) (w : World)
  (ha : At w b #[k0, k1, k2, k3, k4, k5, k6, k7, k8, k9, k10, .iface T (.agg #[pt q])] 79) (m : MethC T (.agg #[pt q]) "Ends" fn (pt q))
  (hR : Calls Tryz.prog fn #[pt q] w fun e w' => e = .returned (endW n lo hi) ∧ Below w.heap.size w w') :
  Calls Tryz.prog 22 #[pt b] w fun e w' => e = .returned (endW n lo hi) ∧ Below w.heap.size w w' := by
 have f1 := ha.tw
 have l1 := ha.lt
 obtain ⟨m1, m2⟩ := m
 have HR := Lib.hid hR
 clear ha hR
 obtain ⟨x, y, g, hv⟩ : ∃ x y g, endW n lo hi = .tuple #[.int .i64 x, .int .i64 y, .bool g] := by unfold endW; split <;> exact ⟨_, _, _, rfl⟩
 rw [hv] at HR ⊢
 clear hv
 go_enter Tryz.func22, Tryz.ntmps22
 go_wp2_with fail
 refine HR.out.mono ?_
 rintro e w1 ⟨rfl, hr⟩
 have HF := Lib.hid hr
 clear hr HR m1 m2 f1 l1
 go_wp2
 exact bodyPost_ret (v := .tuple #[.int .i64 x, .int .i64 y, .bool g]) (by simp only [results, Tryz.f22]; simp [go_sem]) rfl ⟨rfl, HF.out⟩
theorem ctot_w (k : Kd) (q : Nat) (n : Int) (w : World) (hk : k ≠ .log) (h : ∀ W, Below w.heap.size w W → Calls Tryz.prog k.sum #[pt q] W fun e w' => e = .returned (.int .u64 n) ∧ Below W.heap.size W w') :
  Calls Tryz.prog k.ctot #[.agg #[pt q]] w fun e w' => e = .returned (.int .u64 n) ∧ Below w.heap.size w w' := by
 have hb : Below w.heap.size w (w.alloc (.cells #[pt q] k.T)) := (Below.refl _ _).alloc (Nat.le_refl _) _
 have a := (At.new w #[pt q] k.T).one
 have l := (At.new w #[pt q] k.T).lt
 have H := Lib.hid h
 clear h
 cases k
 ·exact absurd rfl hk
 all_goals
  clear hk
  first | go_enter Tryz.func223, Tryz.ntmps223 | go_enter Tryz.func264, Tryz.ntmps264 | go_enter Tryz.func307, Tryz.ntmps307 | go_enter Tryz.func349, Tryz.ntmps349 | go_enter Tryz.func374, Tryz.ntmps374
  go_wp2_with fail
  refine (H.out _ hb).mono ?_
  rintro e w' ⟨rfl, h'⟩
  have R := Lib.hid (keep1 hb h')
  clear hb a l h' H
  go_wp2
  go_ret
  exact ⟨rfl, R.out⟩
theorem ctot_log (q t : Nat) (n : Int) (w : World) (h1 : ∀ W, Below w.heap.size w W → Calls Tryz.prog 85 #[pt q] W fun e w' => e = .returned (pt t) ∧ W = w') (h : ∀ W, Below w.heap.size w W → Calls Tryz.prog Kd.log.sum #[pt t] W fun e w' => e = .returned (.int .u64 n) ∧ Below W.heap.size W w') :
  Calls Tryz.prog Kd.log.ctot #[.agg #[pt q]] w fun e w' => e = .returned (.int .u64 n) ∧ Below w.heap.size w w' := by
 have hb : Below w.heap.size w (w.alloc (.cells #[pt q] Kd.log.T)) := (Below.refl _ _).alloc (Nat.le_refl _) _
 have a := (At.new w #[pt q] Kd.log.T).one
 have l := (At.new w #[pt q] Kd.log.T).lt
 have H := Lib.hid (And.intro h1 h)
 clear h h1
 go_enter Tryz.func196, Tryz.ntmps196
 go_wp2_with fail
 refine (H.out.1 _ hb).mono ?_
 rintro e w' ⟨rfl, rfl⟩
 go_wp2_with fail
 refine (H.out.2 _ hb).mono ?_
 rintro e w' ⟨rfl, h'⟩
 have R := Lib.hid (keep1 hb h')
 clear hb a l h' H
 go_wp2
 go_ret
 exact ⟨rfl, R.out⟩
end Go.Proofs.YtlbnlmhcpephbaaGreatDoor

namespace Go.Proofs.YtlbnlmhcpephbaaGreatDoor
open Go.RowKit
set_option maxRecDepth 100000
set_option maxHeartbeats 4000000
theorem cjoin_w (k : Kd) (q r : Nat) (F : List Nat) (R : World → Int → World → Prop) (w : World)
  (hJ : ∀ W, Below w.heap.size w W → Calls Tryz.prog k.join #[pt q, pt r] W fun e w' => ∃ f, e = .returned (.int .i64 f) ∧ Frame F W w' ∧ R W f w') :
  Calls Tryz.prog k.cjoin #[.agg #[pt q], .iface k.T (.agg #[pt r])] w fun e w' => ∃ f, e = .returned (.int .i64 f) ∧ ∃ W, Below w.heap.size w W ∧ Frame F W w' ∧ R W f w' := by
 have hb : Below w.heap.size w (w.alloc (.cells #[pt q] k.T)).drew := ((Below.refl _ _).alloc (Nat.le_refl _) _).drew
 have a := At.new w #[pt q] k.T
 have hta : ∀ W : World, (Instr.typeAssert (.iface k.T (.agg #[pt r])) 77 k.T false).run Tryz.prog W = .ok (.agg #[pt r]) W := by cases k <;> exact fun W => by kernel_rfl
 have hfd : ∀ W : World, (Instr.field k.T (.agg #[pt r]) 0).run Tryz.prog W = .ok (pt r) W := by cases k <;> exact fun W => by kernel_rfl
 have H := Lib.hid hJ
 clear hJ
 cases k
 all_goals
  dsimp only [Kd.T, pt] at hta hfd a hb ⊢
  first | go_enter Tryz.func194, Tryz.ntmps194 | go_enter Tryz.func221, Tryz.ntmps221 | go_enter Tryz.func262, Tryz.ntmps262 | go_enter Tryz.func305, Tryz.ntmps305 | go_enter Tryz.func347, Tryz.ntmps347 | go_enter Tryz.func372, Tryz.ntmps372
  go_upto_region 1 with fail
  generalize w.alloc _ = W0 at *
  obtain ⟨g, hg⟩ : ∃ g, w.heap.size = g := ⟨_, rfl⟩
  rw [hg] at a
  simp only [hg]
  clear hg
  have f := a.one
  have l := a.lt
  go_still_tail 5, (by kernel_rfl)
  change wpList _ _ _ _ _ W0.drew
  generalize W0.drew = W at *
  go_wp2_with fail
  refine (H.out W hb).mono ?_
  rintro e w' ⟨x, rfl, hF, hr⟩
  have HF := Lib.hid (And.intro hb (And.intro hF hr))
  clear hF hr H f l a hb hta hfd
  go_wp2
  go_ret
  exact ⟨x, rfl, W, HF.out⟩
def BareP (kd pn pd sd mo dg li de fa wi wo p1 p2 p3 p4 p5 p6 p7 p8 p9 p10 : Int) : Prop :=
 (kd = 1 ∧ p1 = pn ∧ p2 = pd ∧ p3 = sd ∧ p4 = mo ∧ p5 = 0 ∧ p6 = 0 ∧ p7 = 0 ∧ p8 = 0 ∧ p9 = 0 ∧ p10 = 0) ∨ (kd = 2 ∧ p1 = 0 ∧ p2 = 0 ∧ p3 = 0 ∧ p4 = 0 ∧ p5 = dg ∧ p6 = li ∧ p7 = 0 ∧ p8 = 0 ∧ p9 = 0 ∧ p10 = 0) ∨ (kd = 3 ∧ p1 = 0 ∧ p2 = 0 ∧ p3 = 0 ∧ p4 = 0 ∧ p5 = 0 ∧ p6 = 0 ∧ p7 = de ∧ p8 = fa ∧ p9 = 0 ∧ p10 = 0) ∨ (kd = 4 ∧ p1 = pn ∧ p2 = pd ∧ p3 = 0 ∧ p4 = 0 ∧ p5 = 0 ∧ p6 = 0 ∧ p7 = 0 ∧ p8 = 0 ∧ p9 = 0 ∧ p10 = 0) ∨ (kd = 5 ∧ p1 = 0 ∧ p2 = 0 ∧ p3 = 0 ∧ p4 = 0 ∧ p5 = 0 ∧ p6 = 0 ∧ p7 = 0 ∧ p8 = 0 ∧ p9 = wi ∧ p10 = wo) ∨ (kd = 6 ∧ p1 = 0 ∧ p2 = 0 ∧ p3 = 0 ∧ p4 = mo ∧ p5 = 0 ∧ p6 = 0 ∧ p7 = 0 ∧ p8 = 0 ∧ p9 = 0 ∧ p10 = 0) ∨ (((kd == 1) = false ∧ (kd == 2) = false ∧ (kd == 3) = false ∧ (kd == 4) = false ∧ (kd == 5) = false ∧ (kd == 6) = false) ∧ p1 = 0 ∧ p2 = 0 ∧ p3 = 0 ∧ p4 = 0 ∧ p5 = 0 ∧ p6 = 0 ∧ p7 = 0 ∧ p8 = 0 ∧ p9 = 0 ∧ p10 = 0)
theorem sbare_w (kd pn pd sd mo dg li de fa wi wo p1 p2 p3 p4 p5 p6 p7 p8 p9 p10 : Int) (w : World) (h : BareP kd pn pd sd mo dg li de fa wi wo p1 p2 p3 p4 p5 p6 p7 p8 p9 p10) :
  Calls Tryz.prog 36 #[.agg #[.int .i64 kd, .int .u64 pn, .int .u64 pd, .int .i64 sd, .int .i64 mo, .int .i64 dg, .int .u64 li, .int .i64 de, .int .i64 fa, .int .i64 wi, .int .u64 wo]] w fun e w' => e = .returned (.agg #[.int .i64 kd, .int .u64 p1, .int .u64 p2, .int .i64 p3, .int .i64 p4, .int .i64 p5, .int .u64 p6, .int .i64 p7, .int .i64 p8, .int .i64 p9, .int .u64 p10]) ∧ Below w.heap.size w w' := by
 obtain ⟨o, ho⟩ : ∃ o : Array Value, o = #[.int .i64 kd, .int .u64 p1, .int .u64 p2, .int .i64 p3, .int .i64 p4, .int .i64 p5, .int .u64 p6, .int .i64 p7, .int .i64 p8, .int .i64 p9, .int .u64 p10] := ⟨_, rfl⟩
 have d := (At.new' (w.alloc (.cells #[.int .i64 kd, .int .u64 pn, .int .u64 pd, .int .i64 sd, .int .i64 mo, .int .i64 dg, .int .u64 li, .int .i64 de, .int .i64 fa, .int .i64 wi, .int .u64 wo] 28)) o 28 (b := w.heap.size + 1) (by simp)).alloc (.cells o 28)
 have R : Hid (∀ v, v = Value.agg o → v = .agg o) := fun v h => h
 subst ho
 have d2 := d.el
 have d3 := d.drew.el
 clear d
 rcases h with ⟨rfl, rfl, rfl, rfl, rfl, rfl, rfl, rfl, rfl, rfl, rfl⟩ | ⟨rfl, rfl, rfl, rfl, rfl, rfl, rfl, rfl, rfl, rfl, rfl⟩ | ⟨rfl, rfl, rfl, rfl, rfl, rfl, rfl, rfl, rfl, rfl, rfl⟩ | ⟨rfl, rfl, rfl, rfl, rfl, rfl, rfl, rfl, rfl, rfl, rfl⟩ | ⟨rfl, rfl, rfl, rfl, rfl, rfl, rfl, rfl, rfl, rfl, rfl⟩ | ⟨rfl, rfl, rfl, rfl, rfl, rfl, rfl, rfl, rfl, rfl, rfl⟩ | ⟨hk, rfl, rfl, rfl, rfl, rfl, rfl, rfl, rfl, rfl, rfl⟩
 all_goals
  go_enter Tryz.func36, Tryz.ntmps36
  go_wp2
  try (go_region; go_wp2)
  refine bodyPost_ret (by simp only [results, Tryz.f36]; simp [go_sem, d2, d3]; rfl) rfl ⟨by first | rfl | simp, (by repeat (first | with_reducible assumption | with_reducible exact Below.refl _ _ | with_reducible refine Below.drew ?_ | with_reducible refine Below.drewN ?_ _ | with_reducible refine Below.setCell ?_ (by first | omega | (simp; done) | (simp; omega)) _ | with_reducible refine Below.alloc ?_ (by first | omega | (simp; done) | (simp; omega) | (simp [World.setCell]; omega)) _))⟩
end Go.Proofs.YtlbnlmhcpephbaaGreatDoor

namespace Go.Proofs.YtlbnlmhcpephbaaGreatDoor
open Go.RowKit
set_option maxRecDepth 100000
set_option maxHeartbeats 4000000
abbrev CR (kd pn pd sd mo dg li de fa wi wo : Int) : Array Value := #[.int .i64 kd, .int .u64 pn, .int .u64 pd, .int .i64 sd, .int .i64 mo, .int .i64 dg, .int .u64 li, .int .i64 de, .int .i64 fa, .int .i64 wi, .int .u64 wo]
abbrev Kd.new : Kd → FuncId | .log => 42 | .hdr => 43 | .dig => 44 | .gre => 45 | .req => 46 | .lum => 47
abbrev Kd.arg (pn pd sd mo dg li de fa wi wo : Int) : Kd → Array Value
 | .log => #[.agg #[.int .u64 pn, .int .u64 pd, .int .i64 sd, .int .i64 mo]]
 | .hdr => #[.agg #[.int .i64 dg, .int .u64 li]]
 | .dig => #[.agg #[.int .i64 de, .int .i64 fa]]
 | .gre => #[.agg #[.int .u64 pn, .int .u64 pd]]
 | .req => #[.agg #[.int .i64 wi, .int .u64 wo]]
 | .lum => #[.int .i64 mo]
def NwC (X : World → Nat → List Nat → Prop) (w : World) (e : Ending) (w' : World) : Prop := ((∃ q Q, e = .returned (.tuple #[pt q, .int .i64 0]) ∧ Within Q w.heap.size w'.heap.size ∧ X w' q Q) ∨ ∃ f : Int, f ≠ 0 ∧ e = .returned (.tuple #[.pointer none, .int .i64 f])) ∧ Below w.heap.size w w'
def NwG (X : World → Nat → List Nat → Prop) (G : Prop) (w : World) (e : Ending) (w' : World) : Prop := ((∃ q Q, e = .returned (.tuple #[pt q, .int .i64 0]) ∧ Within Q w.heap.size w'.heap.size ∧ X w' q Q) ∨ ∃ f : Int, (f ≠ 0 ∧ G) ∧ e = .returned (.tuple #[.pointer none, .int .i64 f])) ∧ Below w.heap.size w w'
theorem NwC.g {X : World → Nat → List Nat → Prop} {w w' : World} {e : Ending} (h : NwC X w e w') : NwG X True w e w' := ⟨h.1.imp id fun ⟨f, hf, he⟩ => ⟨f, ⟨hf, trivial⟩, he⟩, h.2⟩
theorem sfresh_w (k : Kd) (pn pd sd mo dg li de fa wi wo : Int) (X : World → Nat → List Nat → Prop) (G : Prop) (w : World)
  (h : ∀ W, Below w.heap.size w W → Calls Tryz.prog k.new (k.arg pn pd sd mo dg li de fa wi wo) W (NwG X G W)) :
  Calls Tryz.prog 37 #[.agg (CR k.n pn pd sd mo dg li de fa wi wo)] w fun e w' => ((∃ q Q, e = .returned (.tuple #[.iface k.T (.agg #[pt q]), .int .i64 0]) ∧ Within Q w.heap.size w'.heap.size ∧ X w' q Q) ∨ (∃ f : Int, (f ≠ 0 ∧ G) ∧ e = .returned (.tuple #[.iface k.T (.agg #[.pointer none]), .int .i64 f]))) ∧ Below w.heap.size w w' := by
 have hb : Below w.heap.size w (w.alloc (.cells (CR k.n pn pd sd mo dg li de fa wi wo) 28)) := (Below.refl _ _).alloc (Nat.le_refl _) _
 have a := At.new w (CR k.n pn pd sd mo dg li de fa wi wo) 28
 have H := Lib.hid h
 have R : Hid (∀ W w', Below w.heap.size w W → Below W.heap.size W w' → ∀ Q, Within Q W.heap.size w'.heap.size → Within Q w.heap.size w'.heap.size) := fun W w' h1 h2 Q h j hj => ⟨Nat.le_trans h1.size (h j hj).1, (h j hj).2⟩
 clear h
 cases k
 all_goals
  dsimp only [Kd.T, Kd.n, CR, pt] at hb a ⊢
  go_enter Tryz.func37, Tryz.ntmps37
  have f := a.el
  have l := a.lt
  go_wp2_with fail
  refine (H.out _ hb).mono ?_
  rintro e w' ⟨⟨q, Q, rfl, hW, hX⟩ | ⟨f, hf, rfl⟩, hb2⟩
  ·have V := Lib.hid (And.intro (R.out _ _ hb hb2 Q hW) (And.intro hX (keep1 hb hb2)))
   clear hW hX hb2 hb a f l H R
   go_wp2
   go_ret2
   exact ⟨.inl ⟨q, Q, rfl, V.out.1, V.out.2.1⟩, V.out.2.2⟩
  ·have V := Lib.hid (And.intro hf (keep1 hb hb2))
   clear hf hb2 hb a l H R
   go_wp2
   go_ret2
   exact ⟨.inr ⟨f, V.out.1, rfl⟩, V.out.2⟩
theorem sfresh_no (kd pn pd sd mo dg li de fa wi wo : Int) (w : World) (hk : (kd == 1) = false ∧ (kd == 2) = false ∧ (kd == 3) = false ∧ (kd == 4) = false ∧ (kd == 5) = false ∧ (kd == 6) = false) :
  Calls Tryz.prog 37 #[.agg (CR kd pn pd sd mo dg li de fa wi wo)] w fun e w' => e = .returned (.tuple #[.nilIface, .int .i64 1]) ∧ Below w.heap.size w w' := by
 have hb : Below w.heap.size w (w.alloc (.cells (CR kd pn pd sd mo dg li de fa wi wo) 28)) := (Below.refl _ _).alloc (Nat.le_refl _) _
 have a := At.new w (CR kd pn pd sd mo dg li de fa wi wo) 28
 have H := Lib.hid hb
 dsimp only [CR] at a H ⊢
 clear hb
 go_enter Tryz.func37, Tryz.ntmps37
 have f := a.el
 have l := a.lt
 go_wp2
 go_ret2
 exact ⟨rfl, H.out⟩
theorem sreads_w (k : Kd) (eb : Nat) (kd pn pd sd mo dg li de fa wi wo : Int) (T : TypeId) (X : World → Nat → List Nat → Prop) (hX : ∀ W W' q Q S, X W q Q → Frame S W W' → Apart Q S → X W' q Q) (w : World) (hlt : eb < w.heap.size)
  (hR : ∀ W, Below w.heap.size w W → Calls Tryz.prog k.read #[.pointer (some ⟨eb, 0, none⟩)] W fun e w' => RdF eb (.agg (CR kd pn pd sd mo dg li de fa wi wo)) T X W e w') :
  Calls Tryz.prog 50 #[.int .i64 (k.n : Int), .pointer (some ⟨eb, 0, none⟩)] w fun e w' => RdF eb (.agg (CR kd pn pd sd mo dg li de fa wi wo)) T X w e w' := by
 have hba : Below w.heap.size w (w.alloc (.cells (CR 0 0 0 0 0 0 0 0 0 0 0) 28)) := (Below.refl _ _).alloc (Nat.le_refl _) _
 have ar := At.new w (CR 0 0 0 0 0 0 0 0 0 0 0) 28
 obtain ⟨rb, hrb⟩ : ∃ r, w.heap.size = r := ⟨_, rfl⟩
 rw [hrb] at ar
 have H := Lib.hid (And.intro hR (And.intro hX (And.intro hlt hrb)))
 clear hR hX hlt
 have FIN : Hid (∀ w2 v g, Frame [eb] w w2 → rb < w2.heap.size → (g = false ∨ g = true ∧ ∃ q Q, v = .iface T (.agg #[pt q]) ∧ Within Q w.heap.size w2.heap.size ∧ rb ∉ Q ∧ X w2 q Q ∧ Eye w2 eb []) →
   RdF eb (.agg (CR kd pn pd sd mo dg li de fa wi wo)) T X w (.returned (.tuple #[.agg (CR kd pn pd sd mo dg li de fa wi wo), v, .bool g])) (((((((((((w2.setCell ⟨rb, 0, none⟩ (.int .i64 kd)).setCell ⟨rb, 1, none⟩ (.int .u64 pn)).setCell ⟨rb, 2, none⟩ (.int .u64 pd)).setCell ⟨rb, 3, none⟩ (.int .i64 sd)).setCell ⟨rb, 4, none⟩ (.int .i64 mo)).setCell ⟨rb, 5, none⟩ (.int .i64 dg)).setCell ⟨rb, 6, none⟩ (.int .u64 li)).setCell ⟨rb, 7, none⟩ (.int .i64 de)).setCell ⟨rb, 8, none⟩ (.int .i64 fa)).setCell ⟨rb, 9, none⟩ (.int .i64 wi)).setCell ⟨rb, 10, none⟩ (.int .u64 wo))) := by
  intro w2 v g hF hr hc
  have f := Frame.set11 w2 rb (.int .i64 kd) (.int .u64 pn) (.int .u64 pd) (.int .i64 sd) (.int .i64 mo) (.int .i64 dg) (.int .u64 li) (.int .i64 de) (.int .i64 fa) (.int .i64 wi) (.int .u64 wo)
  have FF : Frame [eb] w _ := ⟨f.os.trans hF.os, f.tape.trans hF.tape, f.output.trans hF.output, Nat.le_trans hF.size f.size, fun j hj hn => (f.block j (Nat.lt_of_lt_of_le hj hF.size) (by simp only [List.mem_singleton]; omega)).trans (hF.block j hj hn)⟩
  rcases hc with rfl | ⟨rfl, q, Q, rfl, hQ, hn, hx, hE⟩
  ·exact .inr ⟨v, rfl, FF⟩
  ·exact .inl ⟨q, Q, rfl, fun j hj => ⟨(hQ j hj).1, Nat.lt_of_lt_of_le (hQ j hj).2 f.size⟩, H.out.2.1 _ _ _ _ _ hx f (fun j hj hm => by simp only [List.mem_singleton] at hm; subst hm; exact hn hj), hE.frame f (by have := H.out.2.2.1; simp only [List.mem_singleton]; omega), FF⟩
 dsimp only [CR] at hba ar FIN ⊢
 cases k
 all_goals
  go_enter Tryz.func50, Tryz.ntmps50
  go_wp2_with fail
  generalize hW : w.alloc _ = W at *
  try simp only [hrb]
  have R := Lib.hid hba
  have A0 := Lib.hid ar
  clear hW hba ar
  refine (H.out.1 W R.out).mono ?_
  intro e w2 r
  have V : Hid (∃ v g, e = .returned (.tuple #[.agg (CR kd pn pd sd mo dg li de fa wi wo), v, .bool g]) ∧ Frame [eb] w w2 ∧ At w2 rb (CR 0 0 0 0 0 0 0 0 0 0 0) 28 ∧ (g = false ∨ g = true ∧ ∃ q Q, v = .iface T (.agg #[pt q]) ∧ Within Q w.heap.size w2.heap.size ∧ rb ∉ Q ∧ X w2 q Q ∧ Eye w2 eb [])) := by
   have hn : rb ∉ [eb] := by have := H.out.2.2; simp only [List.mem_singleton]; omega
   rcases r with ⟨q, Q, rfl, hQ, hx, hE, hF⟩ | ⟨v, rfl, hF⟩
   ·exact ⟨_, true, rfl, (Frame.of_below R.out).trans hF, hF.at A0.out hn, .inr ⟨rfl, q, Q, rfl, fun j hj => ⟨Nat.le_trans R.out.size (hQ j hj).1, (hQ j hj).2⟩, fun hm => by have := (hQ _ hm).1; have := A0.out.lt; omega, hx, hE⟩⟩
   ·exact ⟨v, false, rfl, (Frame.of_below R.out).trans hF, hF.at A0.out hn, .inl rfl⟩
  obtain ⟨v, g, rfl, hF, a2, hc⟩ := V.out
  have g9 := a2.el
  have m9 := a2.lt
  have F := Lib.hid (FIN.out w2 v g hF m9 hc)
  clear FIN V R A0 H r hF hc
  dsimp only [CR] at a2 F ⊢
  go_wp2
  have d2 := (At.set11 a2 (.int .i64 kd) (.int .u64 pn) (.int .u64 pd) (.int .i64 sd) (.int .i64 mo) (.int .i64 dg) (.int .u64 li) (.int .i64 de) (.int .i64 fa) (.int .i64 wi) (.int .u64 wo)).el
  generalize (((((((((((w2.setCell _ _).setCell _ _).setCell _ _).setCell _ _).setCell _ _).setCell _ _).setCell _ _).setCell _ _).setCell _ _).setCell _ _).setCell _ _) = W10 at *
  exact bodyPost_ret (by simp only [results, Tryz.f50]; simp [go_sem, d2]) rfl F.out
end Go.Proofs.YtlbnlmhcpephbaaGreatDoor
