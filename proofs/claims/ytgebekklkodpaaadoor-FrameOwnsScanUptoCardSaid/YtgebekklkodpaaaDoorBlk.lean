/- lists of blocks; the image -/
import Derived.Test.YtgebekklkodpaaaDoorLives
namespace Go.Proofs.YtgebekklkodpaaaDoor
open Go.RowKit

abbrev Bl := Nat × List Nat
def BlkAt (w : World) (ad : Addr) (x : Bl) : Prop := x.1 < 256 ∧ ∃ bv, w.cell? ad = some (.int .u8 (x.1 : Int)) ∧ w.cell? (ad.add 1) = some bv ∧ Src w bv x.2
def Blocks (w : World) (v : Value) (bl : List Bl) : Prop :=
  (v = .slice none 0 0 ∧ bl = []) ∨ ∃ ad cap, v = .slice (some ad) bl.length cap ∧ bl.length ≤ cap ∧ cap ≤ 9223372036854775807 ∧ ∀ (k : Nat) (x : Bl), bl[k]? = some x → BlkAt w (ad.add (2 * k)) x
theorem blk_keep {w w' : World} {ad : Addr} {x : Bl} (h : BlkAt w ad x) (hb : Below w.heap.size w w') : BlkAt w' ad x := by
  obtain ⟨h1, bv, h2, h3, h4⟩ := h
  exact ⟨h1, bv, (hb.cell (World.block_lt_of_cell? w _ h2)).trans h2, (hb.cell (World.block_lt_of_cell? w _ h3)).trans h3, src_keep h4 hb⟩
theorem blocks_keep {w w' : World} {v : Value} {bl : List Bl} (h : Blocks w v bl) (hb : Below w.heap.size w w') : Blocks w' v bl := by
  rcases h with h | ⟨ad, cap, h1, h2, h3, h4⟩
  · exact .inl h
  · exact .inr ⟨ad, cap, h1, h2, h3, fun k x hk => blk_keep (h4 k x hk) hb⟩

def encs (bl : List Bl) : List Nat := bl.flatMap fun x => enc x.1 x.2
def tot (bl : List Bl) : Nat := (bl.map fun x => x.2.length + 15).sum
theorem encs_len (bl : List Bl) : (encs bl).length ≤ tot bl := by
  induction bl with
  | nil => simp [encs, tot]
  | cons x r ih =>
    have := enc_len x.1 x.2
    simp only [encs, tot, List.flatMap_cons, List.map_cons, List.sum_cons, List.length_append] at *
    omega
theorem encs_app (xs ys : List Bl) : encs (xs ++ ys) = encs xs ++ encs ys := by simp [encs]
theorem encs_one (x : Bl) : encs [x] = enc x.1 x.2 := by simp [encs]
theorem tot_take (bl : List Bl) (k : Nat) : tot (bl.take k) ≤ tot bl := by
  induction bl generalizing k with
  | nil => simp [tot]
  | cons x r ih =>
    cases k with
    | zero => simp [tot]
    | succ k =>
      have := ih k
      simp only [tot, List.take_succ_cons, List.map_cons, List.sum_cons] at *
      omega
theorem tot_get {bl : List Bl} {k : Nat} {x : Bl} (h : bl[k]? = some x) : tot (bl.take k) + (x.2.length + 15) ≤ tot bl := by
  have h1 := tot_take bl (k + 1)
  rw [List.take_add_one, h] at h1
  simp only [tot, List.map_append, List.sum_append, Option.toList_some, List.map_cons, List.map_nil, List.sum_cons, List.sum_nil] at h1
  simp only [tot]
  omega
def imgHead (kind n : Nat) : List Nat := [99, 110, 99, 100] ++ [kind] ++ Uv.uv n
def imgBody (kind : Nat) (bl : List Bl) : List Nat := imgHead kind bl.length ++ encs bl
def img (kind : Nat) (bl : List Bl) : List Nat := imgBody kind bl ++ Uv.word (seal_ (imgBody kind bl))
theorem imgHead_len (kind n : Nat) : (imgHead kind n).length ≤ 15 := by
  have := (Uv.uv_len n).1
  simp [imgHead]; omega
theorem encs_lt {bl : List Bl} (h : ∀ x ∈ bl, x.1 < 256 ∧ (∀ y ∈ x.2, y < 256) ∧ x.2.length < Uv.u64) : ∀ y ∈ encs bl, y < 256 := by
  intro y hy
  simp only [encs, List.mem_flatMap] at hy
  obtain ⟨x, hx, hy⟩ := hy
  obtain ⟨h1, h2, h3⟩ := h x hx
  exact enc_lt h1 h2 h3 y hy
theorem imgHead_lt {kind n : Nat} (hk : kind < 256) (hn : n < Uv.u64) : ∀ y ∈ imgHead kind n, y < 256 := by
  intro y hy
  simp only [imgHead, List.mem_append, List.mem_cons, List.not_mem_nil, or_false] at hy
  rcases hy with (h | rfl) | h
  · omega
  · exact hk
  · exact Uv.uv_lt n (by rw [Uv.u64_eq] at hn; exact hn) y h
theorem imgBody_lt {kind : Nat} {bl : List Bl} (hk : kind < 256) (hn : bl.length < Uv.u64) (h : ∀ x ∈ bl, x.1 < 256 ∧ (∀ y ∈ x.2, y < 256) ∧ x.2.length < Uv.u64) : ∀ y ∈ imgBody kind bl, y < 256 := by
  intro y hy
  rcases List.mem_append.1 hy with h1 | h1
  · exact imgHead_lt hk hn y h1
  · exact encs_lt h y h1
theorem imgBody_len (kind : Nat) (bl : List Bl) : (imgBody kind bl).length ≤ tot bl + 15 := by
  have h1 := imgHead_len kind bl.length
  have h2 := encs_len bl
  simp only [imgBody, List.length_append]
  omega
theorem img_len (kind : Nat) (bl : List Bl) : (img kind bl).length ≤ tot bl + 19 := by
  have h1 := imgBody_len kind bl
  simp only [img, List.length_append]
  have : (Uv.word (seal_ (imgBody kind bl))).length = 4 := rfl
  omega
theorem len_tot (bl : List Bl) : bl.length ≤ tot bl := by
  induction bl with
  | nil => simp
  | cons x r ih => simp only [tot, List.map_cons, List.sum_cons, List.length_cons] at *; omega
theorem get_tot {bl : List Bl} {x : Bl} (h : x ∈ bl) : x.2.length ≤ tot bl := by
  obtain ⟨k, hk⟩ := List.getElem?_of_mem h
  have := tot_get hk
  omega
end Go.Proofs.YtgebekklkodpaaaDoor
