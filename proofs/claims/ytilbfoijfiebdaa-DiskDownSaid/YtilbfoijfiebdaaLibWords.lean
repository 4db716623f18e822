/- Words for values, and how arguments of a law are opened. -/
import Derived.Test.YtilbfoijfiebdaaAmOpen
namespace Go.Proofs.Ytilbfoijfiebdaa.Am
open Go
set_option linter.unusedVariables false
set_option linter.unusedSimpArgs false

abbrev bs (s : List UInt8) : DV := .p (.val s.length (pb s))
abbrev vb (b : Bool) : TV := .c (.p (.v (.bool b)))
abbrev vi (n : Int) : TV := .c (.p (.v (.int .i64 n)))
abbrev pi (n : Int) : PV := .v (.int .i64 n)
abbrev di (n : Int) : DV := .p (.v (.int .i64 n))
abbrev ps (s : ByteArray) : PV := .v (.string s)
abbrev pbs (s : List UInt8) : PV := .val s.length (pb s)

abbrev rInt : RT := .int .i64
abbrev rByte : RT := .int .u8
abbrev rBytes : RT := .slice (.int .u8)
def inI64 (n : Int) : Prop := -9223372036854775808 ≤ n ∧ n ≤ 9223372036854775807

theorem isAll_cons {r : RT} {rs : List RT} {pss : List (List PV)} (h : IsAll (r :: rs) pss) : ∃ p qs, pss = p :: qs ∧ r.Is p ∧ IsAll rs qs := by
  match pss, h with
  | p :: qs, h => exact ⟨p, qs, rfl, h.1, h.2⟩
theorem isAll_nil {pss : List (List PV)} (h : IsAll [] pss) : pss = [] := by
  match pss, h with
  | [], _ => rfl
theorem is_int {cs : List PV} (h : RT.Is rInt cs) : ∃ n, cs = [pi n] ∧ inI64 n := by
  obtain ⟨n, rfl, h⟩ := h
  exact ⟨n, rfl, by simpa [inI64, IntKind.min, IntKind.max, IntKind.signed, IntKind.bits] using h⟩
theorem is_byte {cs : List PV} (h : RT.Is rByte cs) : ∃ b : UInt8, cs = [pb1 b] := by
  obtain ⟨n, rfl, h1, h2⟩ := h
  have h1 : 0 ≤ n := by simpa [IntKind.min, IntKind.signed] using h1
  have h2 : n ≤ 255 := by simpa [IntKind.max, IntKind.signed, IntKind.bits] using h2
  refine ⟨UInt8.ofNat n.toNat, ?_⟩
  unfold pb1
  rw [UInt8.toNat_ofNat_of_lt' (by show n.toNat < 256; omega)]
  congr 3
  omega
theorem chunks_bytes : ∀ {n : Nat} {xs : List PV}, Chunks rByte.Is n xs → ∃ l : List UInt8, l.length = n ∧ xs = pb l
  | 0, xs, h => ⟨[], rfl, h⟩
  | n + 1, xs, ⟨a, r, h1, h2, h3⟩ => by
    obtain ⟨b, rfl⟩ := is_byte h2
    obtain ⟨l, hl, rfl⟩ := chunks_bytes h3
    exact ⟨b :: l, by simp [hl], by rw [h1]; rfl⟩
theorem is_bytes {cs : List PV} (h : RT.Is rBytes cs) : ∃ l : List UInt8, cs = [pbs l] ∧ l.length ≤ 9223372036854775807 := by
  obtain ⟨n, xs, rfl, hn, hc⟩ := h
  obtain ⟨l, rfl, rfl⟩ := chunks_bytes hc
  exact ⟨l, rfl, by simpa [maxLen] using hn⟩
theorem is_str {cs : List PV} (h : RT.Is .str cs) : ∃ s : ByteArray, cs = [ps s] ∧ s.size ≤ 9223372036854775807 := by
  obtain ⟨s, rfl, h⟩ := h
  exact ⟨s, rfl, by simpa [maxLen] using h⟩
/-- A list of things, each of which is laid in so many cells. -/
theorem chunks_list {α : Type} {Q : List PV → Prop} {f : α → List PV} {R : α → Prop} (h : ∀ cs, Q cs → ∃ a, cs = f a ∧ R a) : ∀ {n : Nat} {xs : List PV}, Chunks Q n xs → ∃ l : List α, l.length = n ∧ xs = l.flatMap f ∧ ∀ a ∈ l, R a
  | 0, xs, h' => ⟨[], rfl, h', fun a ha => by simp at ha⟩
  | n + 1, xs, ⟨x, r, h1, h2, h3⟩ => by
    obtain ⟨a, rfl, ha⟩ := h x h2
    obtain ⟨l, hl, rfl, hr⟩ := chunks_list h h3
    refine ⟨a :: l, by simp [hl], by rw [h1]; rfl, fun b hb => ?_⟩
    rcases List.mem_cons.1 hb with rfl | hb
    · exact ha
    · exact hr b hb
end Go.Proofs.Ytilbfoijfiebdaa.Am
