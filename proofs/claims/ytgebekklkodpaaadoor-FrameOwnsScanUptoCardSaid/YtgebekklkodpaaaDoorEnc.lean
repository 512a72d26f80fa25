/- frame.Encode -/
import Derived.Test.YtgebekklkodpaaaDoorSum
import Derived.Test.YtgebekklkodpaaaDoorWd
import Derived.Test.YtgebekklkodpaaaDoorCat
import Derived.Deep.QuietTactic
import Derived.BigQuiet
namespace Go.Proofs.YtgebekklkodpaaaDoor
open Go.RowKit

/-- a block's bytes ahead of its sum -/
def encHead (tag : Nat) (body : List Nat) : List Nat := [tag] ++ Uv.uv body.length ++ body
/-- a block's bytes -/
def enc (tag : Nat) (body : List Nat) : List Nat := encHead tag body ++ Uv.word (sum (encHead tag body))
theorem encHead_lt {tag : Nat} {body : List Nat} (ht : tag < 256) (hb : ∀ x ∈ body, x < 256) (hl : body.length < Uv.u64) : ∀ x ∈ encHead tag body, x < 256 := by
  intro x hx
  simp only [encHead, List.mem_append, List.mem_singleton] at hx
  rcases hx with (rfl | hx) | hx
  · exact ht
  · exact Uv.uv_lt _ hl x hx
  · exact hb x hx
theorem word_lt (v : Nat) : ∀ x ∈ Uv.word v, x < 256 := by
  intro x hx
  simp [Uv.word] at hx
  omega
theorem enc_lt {tag : Nat} {body : List Nat} (ht : tag < 256) (hb : ∀ x ∈ body, x < 256) (hl : body.length < Uv.u64) : ∀ x ∈ enc tag body, x < 256 := by
  intro x hx
  rcases List.mem_append.1 hx with hx | hx
  · exact encHead_lt ht hb hl x hx
  · exact word_lt _ x hx
theorem encHead_len (tag : Nat) (body : List Nat) : (encHead tag body).length ≤ body.length + 11 := by
  have := (Uv.uv_len body.length).1
  simp [encHead]; omega
theorem enc_len (tag : Nat) (body : List Nat) : (enc tag body).length ≤ body.length + 15 := by
  have := encHead_len tag body
  simp [enc, Uv.word]; omega

theorem below_drewN {B : Nat} {a w : World} (h : Below B a w) (n : Nat) : Below B a (w.drewN n) := ⟨h.os, h.tape, h.output, h.size, h.block⟩
theorem writer_keep {w w' : World} {B p : Nat} {bs : List Nat} (h : WriterIs w B p bs) (hb : Below w.heap.size w w') : WriterIs w' B p bs := by
  obtain ⟨hB, v, hp, hv⟩ := h
  have hg : w.grownBy w' none := ⟨hb.os, hb.tape, hb.output, hb.size, fun k hk _ => hb.block k hk⟩
  exact ⟨hB, v, (hb.block p (heap_lt hp)).trans hp, hv.kept hg (by cases v.ownBlock <;> simp)⟩
/-- what came in reads as it did -/
theorem src_keep {w w' : World} {v : Value} {bs : List Nat} (h : Src w v bs) (hb : Below w.heap.size w w') : Src w' v bs := by
  rcases h with ⟨h1, h2 | ⟨ad, cap, rfl, hl, hm, hc⟩⟩
  · exact ⟨h1, .inl h2⟩
  · refine ⟨h1, .inr ⟨ad, cap, rfl, hl, hm, fun k x hk => ?_⟩⟩
    have h := hc k x hk
    rw [hb.cell (World.block_lt_of_cell? w _ h)]
    exact h
/-- a block of bytes that is known whole reads as its bytes -/
theorem src_block {w : World} {g : Nat} {bs : List Nat} {fr : Nat × Nat} (h : w.heap[g]? = some (.cells (u8s bs).toArray 5 fr)) (hx : ∀ x ∈ bs, x < 256) (hl : bs.length ≤ 9223372036854775807) : Src w (.slice (some ⟨g, 0, none⟩) bs.length bs.length) bs := by
  refine ⟨hx, .inr ⟨_, _, rfl, Nat.le_refl _, hl, fun k x hk => ?_⟩⟩
  rw [Addr.add_mid, Nat.zero_add, cell_at h]
  simp [u8s, hk]

/-- a package-level error -/
def ErrAt (w : World) (g : Nat) (a : Addr) : Prop := w.cell? ⟨g, 0, none⟩ = some (.iface 124 (.pointer (some a)))

theorem zip_below {B : Nat} {w w' : World} (Z : Zip w) (h : Below B w w') (hg : 16 < B) : Zip w' := fun k hk => (h.cell (p := ⟨16, k, none⟩) hg).trans (Z k hk)
theorem seal_below {B : Nat} {w w' : World} (Z : SealT w) (h : Below B w w') (hg : 15 < B) : SealT w' := fun k hk => (h.cell (p := ⟨15, k, none⟩) hg).trans (Z k hk)
theorem err_below {B : Nat} {w w' : World} {g : Nat} {a : Addr} (Z : ErrAt w g a) (h : Below B w w') (hg : g < B) : ErrAt w' g a := (h.cell (p := ⟨g, 0, none⟩) hg).trans Z

theorem encode_zero (w : World) (a : Addr) (hE : ErrAt w 0 a) (v : Value) :
    Calls Tryd.prog 24 #[.int .u8 0, v] w fun e w' => e = .returned (.tuple #[.slice none 0 0, .iface 124 (.pointer (some a))]) ∧ Below w.heap.size w w' := by
  unfold ErrAt at hE
  go_enter Tryd.func24, Tryd.ntmps24
  go_wp2
  go_quiet (fail)
  go_wp2
  go_ret2
  exact ⟨rfl, below_drewN (Below.refl _ _) _⟩

set_option maxRecDepth 100000 in
set_option maxHeartbeats 1000000 in
theorem encode_pos (w : World) (Z : Zip w) (hg : 16 < w.heap.size) (tag : Nat) (ht : tag < 256) (h0 : tag ≠ 0) (v : Value) (body : List Nat) (hv : Src w v body) (hl : body.length ≤ 140737488355200) :
    Calls Tryd.prog 24 #[.int .u8 tag, v] w fun e w' => ∃ g, e = .returned (.tuple #[.slice (some ⟨g, 0, none⟩) (enc tag body).length (enc tag body).length, .nilIface]) ∧ w.heap.size ≤ g ∧
      w'.heap[g]? = some (.cells (u8s (enc tag body)).toArray 5 (0, 0)) ∧ Below w.heap.size w w' := by
  have ht0 : ((tag : Int) == 0) = false := by simp; omega
  have hu : body.length < Uv.u64 := by rw [Uv.u64_eq]; omega
  have hhl := encHead_len tag body
  have hel := enc_len tag body
  have hh := encHead_lt ht hv.1 hu
  have he := enc_lt ht hv.1 hu
  have hsl := sum_lt hh
  obtain ⟨ao, cap, hveq, _⟩ := src_bytes hv
  have HV := hide hv
  have HZ := hide Z
  have HH := hide hh
  have HE := hide he
  have HHL := hide hhl
  have HEL := hide hel
  have HU := hide hu
  have HS := hide hsl
  have HL := hide hl
  clear hv Z hh he hhl hel hu hsl h0
  subst hveq
  go_enter Tryd.func24, Tryd.ntmps24
  go_wp2_with fail
  refine (new_writer w).mono ?_
  rintro e w1 ⟨rfl, hW, hb1⟩
  have HW1 := hide hW
  have HB1 := hide hb1
  clear hW hb1
  go_wp2_with fail
  refine (writer_byte w1 _ _ tag [] HW1.out (by simp)).mono ?_
  rintro e w2 ⟨rfl, hW, hb2⟩
  have HW2 := hide hW
  have HB2 := hide (HB1.out.trans hb2)
  clear hW hb2
  go_wp2_with fail
  refine (writer_uvarint w2 _ _ body.length _ HU.out HW2.out (by simp)).mono ?_
  rintro e w3 ⟨rfl, hW, hb3⟩
  have HW3 := hide hW
  have HB3 := hide (HB2.out.trans hb3)
  clear hW hb3
  go_wp2_with fail
  refine (writer_raw w3 _ _ _ body _ HW3.out HB3.out.size (src_keep HV.out HB3.out) (by have := (Uv.uv_len body.length).1; simp; omega)).mono ?_
  rintro e w4 ⟨rfl, hW, hb4⟩
  have hW' : WriterIs w4 w.heap.size w.heap.size (encHead tag body) := hW
  have HW4 := hide hW'
  have HB4 := hide (HB3.out.trans hb4)
  clear hW hb4 hW'
  go_wp2_with fail
  refine (writer_bytes w4 _ _ _ HW4.out HH.out (by have := HHL.out; omega)).mono ?_
  rintro e w5 ⟨rfl, hh5, hb5⟩
  have HS5 := hide (src_block hh5 HH.out (by have := HHL.out; omega))
  have hs4 := HB4.out.size
  have HB5 := hide (HB4.out.trans (hb5.mono hs4))
  have hW5 : WriterIs w5 w.heap.size w.heap.size (encHead tag body) := writer_keep HW4.out hb5
  have HW5 := hide hW5
  have Z5 := hide (zip_below HZ.out HB5.out hg)
  clear hh5 hb5 hW5
  go_wp2_with fail
  refine (sum_any w5 Z5.out _ (encHead tag body) HS5.out (by have := HHL.out; omega)).mono ?_
  rintro e w' ⟨rfl, rfl⟩
  go_wp2_with fail
  refine (writer_word w5 _ _ (sum (encHead tag body)) _ HW5.out (by have := HHL.out; omega)).mono ?_
  rintro e w6 ⟨rfl, hW, hb6⟩
  have hW' : WriterIs w6 w.heap.size w.heap.size (enc tag body) := hW
  have HW6 := hide hW'
  have HB6 := hide (HB5.out.trans hb6)
  clear hW hb6 hW'
  go_wp2_with fail
  refine (writer_bytes w6 _ _ _ HW6.out HE.out (by have := HEL.out; omega)).mono ?_
  rintro e w7 ⟨rfl, hh7, hb7⟩
  have hs6 := HB6.out.size
  have HB7 := hide (HB6.out.trans (hb7.mono hs6))
  have HH7 := hide hh7
  clear hh7 hb7
  go_wp2
  go_ret2
  exact ⟨w6.heap.size + 1, rfl, by omega, HH7.out, HB7.out⟩
end Go.Proofs.YtgebekklkodpaaaDoor
