/- The finder of groups, in plain words. No condition. -/
import Derived.Test.YthamopcfpmkbfaaGP1
namespace Go.Proofs.Ythamopcfpmkbfaa
structure Fnd where
  out : List (List Nat)
  num : List Nat
  low : List Nat
  opn : List Nat
  is : List Bool
  count : Nat
  groups : List (List Nat)
def enterF (s : Fnd) (x : Nat) : Fnd := { s with count := s.count + 1, num := s.num.set x (s.count + 1), low := s.low.set x (s.count + 1), opn := s.opn ++ [x], is := s.is.set x true }
/-- the bits of some nodes put out -/
def offF : List Nat → List Bool → List Bool
  | [], is => is
  | y :: l, is => offF l (is.set y false)
/-- rising order -/
def sortF (l : List Nat) : List Nat := l.mergeSort fun x y => decide (x ≤ y)
def leaveF (s : Fnd) (x : Nat) : Fnd :=
  if s.low.getD x 0 < s.num.getD x 0 then s else
  let i := s.opn.idxOf x
  let group := s.opn.drop i
  { s with opn := s.opn.take i, is := offF group s.is, groups := s.groups ++ [sortF group] }
/-- what the walk leans on -/
structure Safe (n : Nat) (s : Fnd) : Prop where
  out : s.out.length = n
  rows : ∀ r ∈ s.out, r.length ≤ n ∧ ∀ y ∈ r, y < n
  num : s.num.length = n
  low : s.low.length = n
  is : s.is.length = n
  opn : s.opn.length ≤ n
  nodes : ∀ y ∈ s.opn, y < n
  count : s.count ≤ n
  groups : s.groups.length ≤ n
  small : n ≤ 100000
/-- May it be left? -/
def MayLeave (s : Fnd) (x : Nat) : Prop := s.low.getD x 0 < s.num.getD x 0 ∨ (x ∈ s.opn ∧ s.groups.length < s.num.length)
def lowUp (s : Fnd) (u m : Nat) : Fnd := { s with low := s.low.set u (min (s.low.getD u 0) m) }
/-- One round of 'from': the stack's top is its head. -/
inductive Round (n : Nat) : List (Nat × Nat) × Fnd → List (Nat × Nat) × Fnd → Prop
  | new {x i st s} (hs : Safe n s) (hx : x < n) (hl : st.length < n) (hi : i < (s.out.getD x []).length) (h0 : s.num.getD ((s.out.getD x []).getD i 0) 0 = 0) (hc : s.count < n) (ho : s.opn.length < n) :
      Round n ((x, i) :: st, s) (((s.out.getD x []).getD i 0, 0) :: (x, i + 1) :: st, enterF s ((s.out.getD x []).getD i 0))
  | back {x i st s} (hs : Safe n s) (hx : x < n) (hl : st.length < n) (hi : i < (s.out.getD x []).length) (h0 : s.num.getD ((s.out.getD x []).getD i 0) 0 ≠ 0) (h1 : s.is.getD ((s.out.getD x []).getD i 0) false = true) :
      Round n ((x, i) :: st, s) ((x, i + 1) :: st, lowUp s x (s.num.getD ((s.out.getD x []).getD i 0) 0))
  | cross {x i st s} (hs : Safe n s) (hx : x < n) (hl : st.length < n) (hi : i < (s.out.getD x []).length) (h0 : s.num.getD ((s.out.getD x []).getD i 0) 0 ≠ 0) (h1 : s.is.getD ((s.out.getD x []).getD i 0) false = false) :
      Round n ((x, i) :: st, s) ((x, i + 1) :: st, s)
  | last {x i s} (hs : Safe n s) (hx : x < n) (hi : ¬ i < (s.out.getD x []).length) (hm : MayLeave s x) : Round n ([(x, i)], s) ([], leaveF s x)
  | up {x i u j st s} (hs : Safe n s) (hx : x < n) (hu : u < n) (hl : st.length + 1 < n) (hi : ¬ i < (s.out.getD x []).length) (hm : MayLeave (lowUp s u (s.low.getD x 0)) x) :
      Round n ((x, i) :: (u, j) :: st, s) ((u, j) :: st, leaveF (lowUp s u (s.low.getD x 0)) x)
/-- So many rounds, to the end. -/
inductive Runs (n : Nat) : Nat → List (Nat × Nat) → Fnd → Fnd → Prop
  | done {s} : Runs n 0 [] s s
  | step {k st s st' s' t} (h : Round n (st, s) (st', s')) (r : Runs n k st' s' t) : Runs n (k + 1) st s t
end Go.Proofs.Ythamopcfpmkbfaa
