/- What is played: build. -/
import Derived.Test.YtondkkhagbcadaaGreatProg
import Derived.Test.YtondkkhagbcadaaGreatEmpty13
namespace Go.Proofs.YtondkkhagbcadaaGreat
open Go.RowKit

theorem DocAt.mem {w : World} {m : Nat} {TB : List Nat} {u v d side most : Int} {A : Option Addr} {len cap : Nat} (h : DocAt w m TB u v d side most A len cap) : m ∈ TB := by
  rcases h with ⟨_, _, rfl⟩ | ⟨_, un, vn, L, A1, c1, A2, c2, _, _, _, _, _, _, rfl⟩
  · simp
  · simp
/-- What is played. -/
structure PlayB (most : Int) (l : List (Int × Int)) : Prop where
  n : l.length ≤ 60
  m : 1 ≤ most ∧ most ≤ 4096
  c : ∀ x ∈ l, 0 < x.2 ∧ x.2 ≤ 1125899906842624
theorem vsum_le : ∀ {l : List (Int × Int)}, (∀ x ∈ l, 0 < x.2 ∧ x.2 ≤ 1125899906842624) → 0 ≤ sumP l ∧ sumP l ≤ l.length * 1125899906842624
  | [], _ => by simp [sumP]
  | x :: l, h => by
    have h1 := h x (by simp)
    have h2 := vsum_le (l := l) fun y hy => h y (by simp [hy])
    unfold sumP at *
    simp only [List.map_cons, List.sum_cons, List.length_cons]
    omega
section
variable {most : Int} {l : List (Int × Int)}
theorem PlayB.sum (h : PlayB most l) : 0 ≤ sumP l ∧ sumP l ≤ 67553994410557440 := by have := vsum_le h.c; have := h.n; omega
theorem PlayB.vok (h : PlayB most l) (hok : okP l) : VOk l := ⟨hok, fun x hx => (h.c x hx).1, by have := h.sum; omega⟩
end
/-- The bins and the document's. -/
def BothB (B : Nat) (w wr : World) (b m : Nat) (S TB : List Nat) (k s : Bool) (part : Nat → Int) (rep : Int → Int) (u v d most : Int) (A : Option Addr) (len cap : Nat) (l : List (Int × Int)) : Prop :=
  Two B w wr S TB (BnV wr b S k part rep s most l) (DocAt wr m TB u v d (sideZ s) most A len cap)
section
variable {B : Nat} {w wr w' : World} {b m cb : Nat} {S TB T : List Nat} {k s : Bool} {part : Nat → Int} {rep : Int → Int} {u v d z most : Int} {A A' : Option Addr} {len cap len' cap' : Nat} {l l' : List (Int × Int)} {cv : Array Value} {ct : TypeId}
theorem BothB.abide (h : BothB B w wr b m S TB k s part rep u v d most A len cap l) (hb : Below wr.heap.size wr w') : BothB B w w' b m S TB k s part rep u v d most A len cap l :=
  Two.belowW h hb (fun k => k.below hb) (fun k => k.below hb)
theorem BothB.step (h : BothB B w wr b m S TB k s part rep u v d most A len cap l) (hp : BpvR b S k part rep s most l' wr w') : ∃ S', BothB B w w' b m S' TB k s part rep u v d most A len cap l' := by
  obtain ⟨S', hg, hX, hF⟩ := hp
  exact ⟨S', Two.stepX h hg hX hX.lt hF (h.y.frame hF h.ap.symm)⟩
theorem kinC (h : Two B w wr S (cb :: TB) (BnV wr b S k part rep s most l) (DocAt wr m TB u v d z most A len cap ∧ At wr cb cv ct)) (hp : BpvR b S k part rep s most l' wr w') :
    ∃ S', Two B w w' S' (cb :: TB) (BnV w' b S' k part rep s most l') (DocAt w' m TB u v d z most A len cap ∧ At w' cb cv ct) := by
  obtain ⟨S', hg, hX, hF⟩ := hp
  have ha := h.ap.symm
  exact ⟨S', h.stepX hg hX hX.lt hF ⟨h.y.1.frame hF fun j hj => ha j (by simp [hj]), hF.at h.y.2 (ha cb (by simp))⟩⟩
theorem both_vals (hz : sideZ s = z) (h : Two B w wr S (cb :: TB) (BnV wr b S k part rep s most l) (DocAt wr m TB u v d z most A' len' cap' ∧ At wr cb cv ct)) :
    BothB B w (wr.setCell ⟨m, 5, none⟩ (.slice A len cap)) b m S TB k s part rep u v d most A len cap l := by
  have hF := Frame.set [m] wr m 5 (.slice A len cap) (by simp)
  have hm := h.y.1.mem
  subst hz
  refine ⟨h.x.frame hF fun j hj hn => ?_, h.y.1.vals A len cap, h.ws.mono hF.size, fun j hj => ?_, fun j hj hn => h.ap j hj (by simp [hn]), h.below.setCell (h.wt m (by simp [hm])).1 _, Nat.le_trans h.size hF.size⟩
  · simp only [List.mem_singleton] at hn
    subst hn
    exact h.ap j hj (by simp [hm])
  · have := h.wt.mono hF.size j (by simp [hj])
    exact this
end
/-- What build answers. -/
def BuildB (u v d side most : Int) (A : Option Addr) (len cap : Nat) (l : List (Int × Int)) (w : World) (e : Ending) (w' : World) : Prop :=
  (e = .returned (.tuple #[.pointer none, .pointer none, .bool false]) ∧ Below w.heap.size w w') ∨
  (PlayB most l ∧ ∃ k s part rep stand b m S TB, side = sideZ s ∧ Cs u v d k part rep stand ∧ e = .returned (.tuple #[.pointer (some ⟨b, 0, none⟩), .pointer (some ⟨m, 0, none⟩), .bool true]) ∧ BothB w.heap.size w w' b m S TB k s part rep u v d most A len cap l)

end Go.Proofs.YtondkkhagbcadaaGreat
