/-
  The plain forest: places among children.
-/
import Derived.Test.YtidekbamlnpglaaPs
namespace Tc

def sibL (L : Fo) (id : Int) : List Int := if there L id = false ∨ par L id = 0 then [] else (nd L (par L id)).kids
def idxL (L : Fo) (id : Int) : Int := if there L id = false ∨ par L id = 0 then -1 else ((nd L (par L id)).kids.idxOf id : Int)
def nextL (L : Fo) (id : Int) : Int := if there L id = false ∨ par L id = 0 then 0 else (nd L (par L id)).kids.getD ((nd L (par L id)).kids.idxOf id + 1) 0
def countL (L : Fo) (id kind : Int) : Nat := ((nd L id).kids.filter fun x => decide ((nd L x).kind = kind)).length
theorem mem_sib {L : Fo} (h : WF L) {id : Int} (ht : there L id = true) (hp : par L id ≠ 0) : id ∈ (nd L (par L id)).kids := (h.kids_iff _ _).2 ⟨ht, rfl, hp⟩
end Tc
