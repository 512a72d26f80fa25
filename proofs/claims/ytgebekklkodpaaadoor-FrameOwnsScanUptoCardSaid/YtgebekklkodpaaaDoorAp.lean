/- append of bytes to an own row, in one term -/
import Derived.Test.YtgebekklkodpaaaDoorStr
namespace Go.Proofs.YtgebekklkodpaaaDoor
open Go.RowKit

/-- an own row of bytes at or above B -/
def Own (w : World) (B : Nat) (v : Value) (bs : List Nat) : Prop := w.ownsRow B 5 1 v bs.length (u8s bs)

set_option maxRecDepth 100000 in
theorem append_src {ops : Array Oper} {rest : List Oper} {o : Oper} {a : Act} {Q : Exit → Act → World → Prop} (w0 w : World) (B : Nat) (v xv : Value) (cur bs : List Nat) (hgd : o.guard = none) (s x : Operand)
    (ho : o.op = .call { callee := .builtin .append, args := #[s, x], argTypes := #[25, 25] }) (hs : a.eval s = v) (hx : a.eval x = xv)
    (hown : Own w B v cur) (hsrc : Src w xv bs) (hl : cur.length + bs.length ≤ 140737488355328) (hB : B ≤ w.heap.size) (hb : Below B w0 w)
    (h : ∀ v' w', Own w' B v' (cur ++ bs) → Below B w0 w' → wpList Tryd.prog ops Q rest (a.put o.dst v') w') :
    wpList Tryd.prog ops Q (o :: rest) a w := by
  obtain ⟨i0, hi, hz0, hz1, hz2⟩ := info_parts info5
  rcases hsrc with ⟨_, ⟨rfl, rfl⟩ | ⟨ad, cap, rfl, _, _, hc⟩⟩
  · refine wpList_append_own_none hgd s x 25 ho B 5 i0 1 Tryd.underlying25 hi v cur.length (u8s cur) hs hown hx (h v w ?_ hb)
    rw [List.append_nil]
    exact hown
  · refine wpList_append_own w hgd s x 25 ho B 5 i0 (.int .u8 0) 1 1 Tryd.underlying25 hi hz0 hz1 hz2 rfl (by decide) v cur.length (u8s cur) hs hown ad bs.length cap (u8s bs) hx (by simp [u8s_len]) (src_news hc) (u8s_one _) (by simp only [maxLen]; omega) (by omega) hB ?_
    intro v' w' hown' hg _
    refine h v' w' ?_ (hb.grown hg hB (fun k hk => (World.ownsRow.lt hown k hk).1))
    unfold Own
    rw [u8s_app, List.length_append]
    exact hown'

theorem own_src {w : World} {B : Nat} {v : Value} {bs : List Nat} (h : Own w B v bs) (hx : ∀ x ∈ bs, x < 256) : Src w v bs := src_own h hx
theorem own_lit (w : World) (B : Nat) (bs : List Nat) (hB : B ≤ w.heap.size) (hl : bs.length ≤ 9223372036854775807) (cs : Array Value) (hcs : cs = (u8s bs).toArray) :
    Own (w.alloc (.cells cs 5)) B (.slice (some ⟨w.heap.size, 0, none⟩) bs.length bs.length) bs := by
  subst hcs
  have h := World.ownsRow_lit (base := B) (e := 5) (size := 1) w (u8s bs).toArray bs.length hB (by simp only [maxLen]; omega) (by simp [u8s_len])
  simpa [Own] using h
theorem own_keep {w w' : World} {B : Nat} {v : Value} {bs : List Nat} (h : Own w B v bs) (hb : Below w.heap.size w w') : Own w' B v bs :=
  World.ownsRow.kept (row := none) h ⟨hb.os, hb.tape, hb.output, hb.size, fun k hk _ => hb.block k hk⟩ (by cases hv : v.ownBlock <;> simp)
theorem own_form {w : World} {B : Nat} {v : Value} {bs : List Nat} (h : Own w B v bs) (hl : 0 < bs.length) : ∃ g cap, v = .slice (some ⟨g, 0, none⟩) bs.length cap := Joins.ownsRow_form h hl
/-- the shape of a byte slice's value -/
theorem src_form {w : World} {v : Value} {bs : List Nat} (h : Src w v bs) : ∃ ao cap, v = .slice ao bs.length cap := by
  obtain ⟨ao, cap, h, _⟩ := src_bytes h
  exact ⟨ao, cap, h⟩
end Go.Proofs.YtgebekklkodpaaaDoor
