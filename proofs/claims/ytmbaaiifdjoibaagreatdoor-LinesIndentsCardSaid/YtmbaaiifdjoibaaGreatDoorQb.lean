/- Contracts: a Builder is written: bytes, characters. Own text of the prover; nothing is assumed. -/
import Derived.Test.YtmbaaiifdjoibaaGreatDoorQa
import Derived.Test.YtmbaaiifdjoibaaGreatDoorJa
import Derived.Lib.RuneBytes
set_option maxRecDepth 100000
namespace Go.SV

variable {T : Nat → Option Entry}

abbrev U8 : Nat := 5

/-- A row of bytes that grows, and whose type is known. -/
def TokU (H0 H : AH) (v : AV) (l : List UInt8) : Prop := (v = .nils ∧ l = []) ∨ ∃ t, v = .sl t 1 (l.map u8v) ∧ H0.toks.length ≤ t ∧ H.toks[t]? = some (l.length, 1, U8) ∧ l ≠ []

theorem TokU.cell {H0 H : AH} {v : AV} {l : List UInt8} (h : TokU H0 H v l) : v.isCell = true ∧ v.def? = true ∧ v.cells = [v] := by
  rcases h with ⟨rfl, _⟩ | ⟨t, rfl, _⟩ <;> exact ⟨rfl, rfl, rfl⟩
theorem TokU.len {H0 H : AH} {v : AV} {l : List UInt8} (h : TokU H0 H v l) {k : AV → Prop} (hk : k (.int .i64 l.length)) : gP (aLen .row v H) k := by
  rcases h with ⟨rfl, rfl⟩ | ⟨t, rfl, _⟩
  · exact gP_i rfl hk
  · exact gP_i (by simp [aLen]) hk

/-- A Builder, new since a heap, with its bytes. -/
structure Bl (H0 H : AH) (b : Nat) (l : List UInt8) : Prop where
  v : ∃ v, H.get b = .cells [.bnil, v] ∧ TokU H0 H v l
  g : Grow H0 H
  lo : H0.obs.length ≤ b
  hi : b < H.obs.length

theorem Bl.push (H : AH) : Bl H (H.push (.cells [.bnil, .nils])) H.obs.length [] := ⟨⟨_, push_get _ _, .inl ⟨rfl, rfl⟩⟩, .push _ _, Nat.le_refl _, by rw [push_len]; omega⟩
theorem Bl.grow {H0 H H' : AH} {b : Nat} {l : List UInt8} (h : Bl H0 H b l) (g : Grow H H') : Bl H0 H' b l := by
  obtain ⟨⟨v, h1, h2⟩, h3, h4, h5⟩ := h
  refine ⟨⟨v, by rw [g.get h5]; exact h1, ?_⟩, h3.trans g, h4, Nat.lt_of_lt_of_le h5 g.len⟩
  rcases h2 with h | ⟨t, a, b, c, d⟩
  · exact .inl h
  · refine .inr ⟨t, a, b, ?_, d⟩
    rw [g.tok (by rcases Nat.lt_or_ge t H.toks.length with h | h; exact h; rw [List.getElem?_eq_none h] at c; simp at c)]
    exact c
theorem Bl.other {H0 H : AH} {b c : Nat} {l : List UInt8} {o : AObj} (h : Bl H0 H b l) (hc : c < H.obs.length) (hne : c ≠ b) (hlo : H0.obs.length ≤ c) : Bl H0 (H.put c o) b l := by
  obtain ⟨⟨v, h1, h2⟩, h3, h4, h5⟩ := h
  exact ⟨⟨v, by rw [put_get hc, if_neg (Ne.symm hne)]; exact h1, h2⟩, h3.put hlo, h4, by rw [put_len]; exact h5⟩

/-! ### Characters -/
end Go.SV
