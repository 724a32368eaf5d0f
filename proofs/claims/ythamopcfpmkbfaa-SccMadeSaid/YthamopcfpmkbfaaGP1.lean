/- Edges of a graph, each once. No condition. -/
import Init.Data.List.Lemmas
namespace Go.Proofs.Ythamopcfpmkbfaa
/-- What of a row is a node, each once. -/
def dd (n : Nat) : List Int → List Int → List Int
  | acc, [] => acc
  | acc, b :: l => if 0 ≤ b ∧ b < (n : Int) ∧ b ∉ acc then dd n (acc ++ [b]) l else dd n acc l
def edgesF (g : List (List Int)) : List (List Int) := g.map (dd g.length [])
theorem dd_snoc (n : Nat) (b : Int) : ∀ (l acc : List Int), dd n acc (l ++ [b]) = if 0 ≤ b ∧ b < (n : Int) ∧ b ∉ dd n acc l then dd n acc l ++ [b] else dd n acc l
  | [], acc => by simp only [List.nil_append, dd]; congr
  | c :: l, acc => by
    simp only [List.cons_append, dd]
    split
    · exact dd_snoc n b l _
    · exact dd_snoc n b l _
theorem dd_length (n : Nat) : ∀ (l acc : List Int), (dd n acc l).length ≤ acc.length + l.length
  | [], acc => by simp [dd]
  | c :: l, acc => by
    simp only [dd]
    split
    · have := dd_length n l (acc ++ [c]); simp only [List.length_append, List.length_cons, List.length_nil] at this ⊢; omega
    · have := dd_length n l acc; simp only [List.length_cons]; omega
theorem dd_mem (n : Nat) (x : Int) : ∀ (l acc : List Int), x ∈ dd n acc l ↔ x ∈ acc ∨ (x ∈ l ∧ 0 ≤ x ∧ x < (n : Int))
  | [], acc => by simp [dd]
  | c :: l, acc => by
    simp only [dd]
    split
    · rename_i h
      rw [dd_mem n x l]
      simp only [List.mem_append, List.mem_cons, List.not_mem_nil, or_false]
      constructor
      · rintro ((h1 | rfl) | h2)
        · exact .inl h1
        · exact .inr ⟨.inl rfl, h.1, h.2.1⟩
        · exact .inr ⟨.inr h2.1, h2.2⟩
      · rintro (h1 | ⟨rfl | h1, h2⟩)
        · exact .inl (.inl h1)
        · exact .inl (.inr rfl)
        · exact .inr ⟨h1, h2⟩
    · rename_i h
      rw [dd_mem n x l]
      simp only [List.mem_cons]
      constructor
      · rintro (h1 | h2)
        · exact .inl h1
        · exact .inr ⟨.inr h2.1, h2.2⟩
      · rintro (h1 | ⟨rfl | h1, h2⟩)
        · exact .inl h1
        · by_cases hx : x ∈ acc
          · exact .inl hx
          · exact absurd ⟨h2.1, h2.2, hx⟩ h
        · exact .inr ⟨h1, h2⟩
theorem edgesF_length (g : List (List Int)) : (edgesF g).length = g.length := by simp [edgesF]
theorem edgesF_get (g : List (List Int)) (i : Nat) (h : i < g.length) : (edgesF g)[i]'(by simpa [edgesF] using h) = dd g.length [] g[i] := by simp [edgesF]
theorem edgesF_mem (g : List (List Int)) (i : Nat) (h : i < g.length) (y : Int) : y ∈ (edgesF g)[i]'(by simpa [edgesF] using h) ↔ y ∈ g[i] ∧ 0 ≤ y ∧ y < (g.length : Int) := by
  rw [edgesF_get g i h, dd_mem]; simp
end Go.Proofs.Ythamopcfpmkbfaa
