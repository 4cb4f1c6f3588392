/- Fusing pipes, on trees (chapter 20), with no program in sight. No condition. -/
import Derived.Test.YtjhgljfmheopmaaDoorTree
set_option linter.unusedVariables false
set_option linter.unusedSimpArgs false
namespace Go.Proofs.YtjhgljfmheopmaaDoor

mutual
def fuseT : Tr → Tr
  | .mk kd n s ks => .mk kd n s (fuseTs kd ks)
def fuseTs : Int → List Tr → List Tr
  | _, [] => []
  | kd, t :: ts => (if kd == 32 && (fuseT t).kind == 32 then (fuseT t).kids else [fuseT t]) ++ fuseTs kd ts
end
theorem fuseT_mk (kd n : Int) (s : List UInt8) (ks : List Tr) : fuseT (.mk kd n s ks) = .mk kd n s (fuseTs kd ks) := by rw [fuseT]
theorem fuseTs_nil (kd : Int) : fuseTs kd [] = [] := by rw [fuseTs]
theorem fuseTs_cons (kd : Int) (t : Tr) (ts : List Tr) : fuseTs kd (t :: ts) = (if kd == 32 && (fuseT t).kind == 32 then (fuseT t).kids else [fuseT t]) ++ fuseTs kd ts := by rw [fuseTs]
theorem fuseTs_append (kd : Int) (a b : List Tr) : fuseTs kd (a ++ b) = fuseTs kd a ++ fuseTs kd b := by
  induction a with
  | nil => rw [fuseTs_nil]; rfl
  | cons t a ih => rw [List.cons_append, fuseTs_cons, fuseTs_cons, ih, List.append_assoc]
theorem fuse_kind (t : Tr) : (fuseT t).kind = t.kind := by cases t; rw [fuseT_mk]; rfl
theorem fuse_take (kd : Int) (ks : List Tr) (k : Nat) (h : k < ks.length) : fuseTs kd (ks.take (k + 1)) = fuseTs kd (ks.take k) ++ (if kd == 32 && (fuseT ks[k]).kind == 32 then (fuseT ks[k]).kids else [fuseT ks[k]]) := by
  rw [List.take_succ_eq_append_getElem h, fuseTs_append, fuseTs_cons, fuseTs_nil, List.append_nil]
mutual
theorem fuseT_le : ∀ t : Tr, (flat (fuseT t)).length ≤ (flat t).length
  | .mk kd n s ks => by
    have h := fuseTs_le kd ks
    rw [fuseT_mk, flat_size, flat_size]
    omega
theorem fuseTs_le : ∀ (kd : Int) (ks : List Tr), (flatAll (fuseTs kd ks)).length ≤ (flatAll ks).length
  | kd, [] => by rw [fuseTs_nil]; exact Nat.le_refl _
  | kd, t :: ts => by
    have h1 := fuseT_le t
    have h2 := fuseTs_le kd ts
    have h3 := flat_kids_le (fuseT t)
    rw [fuseTs_cons, flatAll_append, flatAll_cons, List.length_append, List.length_append]
    split
    · omega
    · rw [flatAll_cons, flatAll_nil, List.append_nil]
      omega
end
end Go.Proofs.YtjhgljfmheopmaaDoor
