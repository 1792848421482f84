/- Plain laws: constructions in steps. -/
import Derived.Test.YtanlecgpnknhoaaPlain2
namespace Go.Proofs.Ytanlecgpnknhoaa
set_option linter.unusedSimpArgs false
set_option linter.unusedVariables false

structure Step where
  k : Nat
  a : Nat
  b : Nat

def cpickR (refs : List Int) (n : Nat) : Int := if 0 < n / 2 % (refs.length + 1) then refs.getD (n / 2 % (refs.length + 1) - 1) 0 else 0
def cpick (refs : List Int) (n : Nat) : Int := if n % 2 = 1 then cnot (cpickR refs n) else cpickR refs n
def cdo (c : List Gate) (refs : List Int) (s : Step) : List Gate × Int :=
  if s.k % 4 = 0 then cinput c ((s.a : Int) % 8 + 1)
  else if s.k % 4 = 1 then cand c (cpick refs s.a) (cpick refs s.b)
  else if s.k % 4 = 2 then cor c (cpick refs s.a) (cpick refs s.b)
  else ciff c (cpick refs s.a) (cpick refs s.b)
def cnew : List Gate := [⟨0, 0, 0⟩]
def cstep (x : List Gate × List Int) (s : Step) : List Gate × List Int := ((cdo x.1 x.2 s).1, x.2 ++ [(cdo x.1 x.2 s).2])
def cbuild (l : List Step) : List Gate × List Int := l.foldl cstep (cnew, [])
theorem cbuild_snoc (l : List Step) (s : Step) : cbuild (l ++ [s]) = cstep (cbuild l) s := by simp [cbuild, List.foldl_append]
end Go.Proofs.Ytanlecgpnknhoaa
