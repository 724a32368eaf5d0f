/- The finder's whole course, in plain words. No condition. -/
import Derived.Test.YthamopcfpmkbfaaGP1
import Derived.Test.YthamopcfpmkbfaaGP2
namespace Go.Proofs.Ythamopcfpmkbfaa
/-- From node i on to the last one. -/
inductive Goes (n : Nat) : Nat → Fnd → Fnd → Prop
  | done {s} : Goes n n s s
  | skip {i s t} (hi : i < n) (hs : Safe n s) (h : s.num.getD i 0 ≠ 0) (r : Goes n (i + 1) s t) : Goes n i s t
  | go {i s s' t m} (hi : i < n) (hs : Safe n s) (h : s.num.getD i 0 = 0) (hc : s.count < n) (ho : s.opn.length < n) (hr : Runs n m [(i, 0)] (enterF s i) s') (r : Goes n (i + 1) s' t) : Goes n i s t
def nats (g : List (List Int)) : List (List Nat) := g.map (·.map Int.toNat)
def fnd0 (g : List (List Int)) : Fnd := ⟨nats (edgesF g), List.replicate g.length 0, List.replicate g.length 0, [], List.replicate g.length false, 0, []⟩
def sortG (gs : List (List Nat)) : List (List Nat) := gs.mergeSort fun a b => decide (a.headD 0 ≤ b.headD 0)
end Go.Proofs.Ythamopcfpmkbfaa
