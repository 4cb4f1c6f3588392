/- Programs whose calls are not put in (InlineStays), on trees; with no program in sight. No condition. -/
import Derived.Test.YtclifaehbdeldaaDoorInlL
import Derived.Test.YtclifaehbdeldaaDoorSeqW
set_option linter.unusedVariables false
set_option linter.unusedSimpArgs false
namespace Go.Proofs.YtclifaehbdeldaaDoor

def cW (s : List UInt8) : Tr := .mk 21 0 [] [.mk 1 0 s []]
def echoS : List UInt8 := [101, 99, 104, 111]
def bodyS (n : Nat) : Tr := seqT (List.replicate n (cW echoS))
def funS (n : Nat) : Tr := .mk 31 0 [102] [bodyS n]
def moreS : Nat → Tr
  | 0 => .mk 31 0 [102] [cW [102]]
  | 1 => .mk 36 0 [] [.mk 1 0 [102] []]
  | _ => cW [102]
def progS (m n : Nat) : Tr := .mk 23 0 [] [funS n, cW [102], moreS m]
theorem cW_len (s : List UInt8) : (flat (cW s)).length = 2 := by simp [cW, flat_mk, flatAll_cons, flatAll_nil]
theorem cWs_len (s : List UInt8) : ∀ n, (flatAll (List.replicate n (cW s))).length = 2 * n
  | 0 => by rw [List.replicate_zero, flatAll_nil]; rfl
  | n + 1 => by rw [List.replicate_succ, flatAll_cons, List.length_append, cW_len, cWs_len s n]; omega
theorem cntF_nil (a : List UInt8) : cntF (flatAll []) a = 0 := by rw [flatAll_nil]; rfl
theorem cntF_mk (kd n : Int) (s : List UInt8) (ks : List Tr) (a : List UInt8) : cntF (flat (.mk kd n s ks)) a = cntF (flatAll ks) a + if kd == 31 && s == a then 1 else 0 := by
  rw [flat_mk]
  unfold cntF
  rw [List.countP_cons]
theorem cntF_cW (s a : List UInt8) : cntF (flat (cW s)) a = 0 := by simp [cntF, cW, flat_mk, flatAll_cons, flatAll_nil]
theorem cntF_cWs (s a : List UInt8) : ∀ n, cntF (flatAll (List.replicate n (cW s))) a = 0
  | 0 => by rw [List.replicate_zero, flatAll_nil]; rfl
  | n + 1 => by rw [List.replicate_succ, flatAll_cons, cntF_append, cntF_cW, cntF_cWs s a n]
theorem body_cases (n : Nat) : (n = 0 ∧ bodyS n = nopT) ∨ (n = 1 ∧ bodyS n = cW echoS) ∨ (2 ≤ n ∧ bodyS n = .mk 23 0 [] (List.replicate n (cW echoS))) := by
  rcases n with _ | _ | n
  · exact .inl ⟨rfl, rfl⟩
  · exact .inr (.inl ⟨rfl, rfl⟩)
  · exact .inr (.inr ⟨by omega, seqT_many (by simp)⟩)
theorem cntF_body (n : Nat) (a : List UInt8) : cntF (flat (bodyS n)) a = 0 := by
  rcases body_cases n with ⟨_, h⟩ | ⟨_, h⟩ | ⟨_, h⟩
  · rw [h]; simp [cntF, nopT, flat_mk, flatAll_nil]
  · rw [h]; exact cntF_cW _ _
  · rw [h, flat_mk]
    have := cntF_cWs echoS a n
    unfold cntF at this ⊢
    rw [List.countP_cons, this]
    rfl
theorem body_len (n : Nat) : (flat (bodyS n)).length ≤ 2 * n + 1 := by
  rcases body_cases n with ⟨h1, h⟩ | ⟨h1, h⟩ | ⟨_, h⟩
  · rw [h]; simp [nopT, flat_mk, flatAll_nil]
  · rw [h, cW_len]; omega
  · rw [h, flat_size, cWs_len]; omega
theorem prog_len (m n : Nat) : (flat (progS m n)).length ≤ 2 * n + 8 := by
  have h := body_len n
  have hm : (flat (moreS m)).length ≤ 3 := by
    rcases m with _ | _ | m
    · simp [moreS, cW, flat_mk, flatAll_cons, flatAll_nil]
    · simp [moreS, flat_mk, flatAll_cons, flatAll_nil]
    · show (flat (cW [102])).length ≤ 3
      rw [cW_len]
      omega
  unfold progS funS
  rw [flat_size, flatAll_cons, flatAll_cons, flatAll_cons, flatAll_nil, List.append_nil, List.length_append, List.length_append, flat_size, flatAll_cons, flatAll_nil, List.append_nil, cW_len]
  omega
def SmN (x : Nd) : Prop := x.s.length ≤ 4 ∧ x.k ≤ 100
theorem sm_mk {kd n : Int} {s : List UInt8} {ks : List Tr} (hs : s.length ≤ 4) (hk : ks.length ≤ 100) (h : ∀ x ∈ flatAll ks, SmN x) : ∀ x ∈ flat (.mk kd n s ks), SmN x := by
  intro x hx
  rw [flat_mk] at hx
  rcases List.mem_cons.1 hx with rfl | hx
  · exact ⟨hs, by simp only; omega⟩
  · exact h x hx
theorem sm_nil : ∀ x ∈ flatAll [], SmN x := by intro x hx; rw [flatAll_nil] at hx; cases hx
theorem sm_cons {t : Tr} {ts : List Tr} (h : ∀ x ∈ flat t, SmN x) (h' : ∀ x ∈ flatAll ts, SmN x) : ∀ x ∈ flatAll (t :: ts), SmN x := by
  intro x hx
  rw [flatAll_cons, List.mem_append] at hx
  exact hx.elim (h x) (h' x)
theorem sm_cW {s : List UInt8} (hs : s.length ≤ 4) : ∀ x ∈ flat (cW s), SmN x := sm_mk (by decide) (by simp) (sm_cons (sm_mk hs (by simp) sm_nil) sm_nil)
theorem sm_cWs : ∀ n, ∀ x ∈ flatAll (List.replicate n (cW echoS)), SmN x
  | 0 => sm_nil
  | n + 1 => sm_cons (sm_cW (by decide)) (sm_cWs n)
theorem sm_body (n : Nat) (hn : n ≤ 100) : ∀ x ∈ flat (bodyS n), SmN x := by
  rcases body_cases n with ⟨_, h⟩ | ⟨_, h⟩ | ⟨_, h⟩
  · rw [h]; exact sm_mk (by decide) (by decide) sm_nil
  · rw [h]; exact sm_cW (by decide)
  · rw [h]; exact sm_mk (by decide) (by rw [List.length_replicate]; exact hn) (sm_cWs n)
theorem sm_prog (m n : Nat) (hn : n ≤ 100) : ∀ x ∈ flat (progS m n), SmN x := by
  refine sm_mk (by decide) (by simp) (sm_cons (sm_mk (by decide) (by simp) (sm_cons (sm_body n hn) sm_nil)) (sm_cons (sm_cW (by decide)) (sm_cons ?_ sm_nil)))
  rcases m with _ | _ | m
  · exact sm_mk (by decide) (by decide) (sm_cons (sm_cW (by decide)) sm_nil)
  · exact sm_mk (by decide) (by decide) (sm_cons (sm_mk (by decide) (by decide) sm_nil) sm_nil)
  · exact sm_cW (by decide)
theorem leadS (m n : Nat) : leadF (progS m n).kids = [funS n] := by
  simp [progS, Tr.kids, leadF, funS, cW, Tr.kind, List.takeWhile]
theorem inl_fun (B : Body) (d sz : Nat) (hB : ∀ b, B [102] = some b → 24 < (flat b).length) : inlT B d (cW [102]) sz = (cW [102], sz) := by
  unfold cW
  rw [inlT_mk, inlTs_cons, inlTs_nil]
  simp only
  rw [show inlT B (d + 1) (.mk 1 0 [102] []) sz = (.mk 1 0 [102] [], sz) by rw [inlT_mk, inlTs_nil]; rfl]
  unfold endI hitI
  simp only [Tr.kind, Tr.str]
  cases hb : B [102] with
  | none => simp
  | some b =>
    have := hB b hb
    simp
    omega
theorem prog_stays (m n : Nat) (h : m ≤ 1 ∨ 24 < (flat (bodyS n)).length) : passI (progS m n) = progS m n := by
  unfold passI
  split
  · rename_i hc
    simp only [Bool.and_eq_true] at hc
    rw [leadS]
    rcases m with _ | _ | m
    · exfalso
      have hk : ownF (flat (progS 0 n)) (progS 0 n).kids = [] := by
        unfold ownF
        rw [leadS]
        have hcn : cntF (flat (progS 0 n)) [102] = 2 := by
          unfold progS funS
          rw [show moreS 0 = .mk 31 0 [102] [cW [102]] from rfl, cntF_mk, flatAll_cons, flatAll_cons, flatAll_cons, flatAll_nil, List.append_nil, cntF_append, cntF_append, cntF_mk, cntF_mk, flatAll_cons, flatAll_nil, List.append_nil, flatAll_cons, flatAll_nil, List.append_nil, cntF_body, cntF_cW]
          rfl
        unfold ownK
        rw [List.filter_cons, List.filter_nil, show (funS n).str = [102] from rfl, hcn]
        rfl
      rw [hk] at hc
      exact absurd hc.2 (by simp)
    · exfalso
      have h36 : (flat (progS 1 n)).any (fun x => x.kind == 36) = true := by
        rw [List.any_eq_true]
        refine ⟨⟨36, 0, 1, 2, []⟩, ?_, rfl⟩
        unfold progS moreS
        rw [flat_mk, flatAll_cons, flatAll_cons, flatAll_cons]
        simp [flat_mk, flatAll_cons, flatAll_nil]
      rw [h36] at hc
      exact absurd hc.1.2 (by simp)
    · have hb : 24 < (flat (bodyS n)).length := by rcases h with h | h; (· omega); exact h
      have hB : ∀ b, bodyF (flat (progS (m + 2) n)) (progS (m + 2) n).kids [102] = some b → 24 < (flat b).length := by
        intro b hb'
        unfold bodyF at hb'
        rw [leadS, show [funS n] = [] ++ [funS n] from rfl, bodyL_snoc, bodyL_nil] at hb'
        split at hb'
        · simp only [show (funS n).str = [102] from rfl, if_true] at hb'
          simp only [funS, Tr.kids, List.head?_cons, Option.some.injEq] at hb'
          rw [← hb']
          exact hb
        · cases hb'
      rw [show (progS (m + 2) n).kids.drop [funS n].length = [cW [102], cW [102]] from rfl, inlTs_cons, inlTs_cons, inlTs_nil, inl_fun _ _ _ hB]
      simp only
      rw [inl_fun _ _ _ hB]
      rfl
  · rfl
theorem cW_ok (d : Nat) (s : List UInt8) (h : s.length ≤ 1000) : okT (d + 2) false (cW s) = true := by
  simp [cW, okT, kindB, commandB, wordB, fieldsB, namedB, childrenB, okAll, takesB]
  omega
theorem body_ok (d n : Nat) : okT (d + 3) false (bodyS n) = true := by
  rcases body_cases n with ⟨h1, h⟩ | ⟨h1, h⟩ | ⟨h1, h⟩
  · rw [h]; simp [nopT, okT, kindB, commandB, fieldsB, namedB, childrenB, okAll]
  · rw [h]; exact cW_ok (d + 1) _ (by decide)
  · rw [h, okT, okAll_rep (fun k => by rw [show takesB 23 ((List.replicate n (cW echoS)).length : Int) k = false from rfl]; exact cW_ok d _ (by decide))]
    simp [kindB, commandB, fieldsB, namedB, childrenB]
    omega
theorem fun_ok (d : Nat) (b : Tr) (h : okT d false b = true) : okT (d + 1) false (.mk 31 0 [102] [b]) = true := by
  have h2 : takesB 31 ((([b] : List Tr).length : Nat) : Int) ((0 : Nat) : Int) = false := rfl
  rw [okT, okAll, h2, h]
  rfl
theorem more_ok (d m : Nat) : okT (d + 3) false (moreS m) = true := by
  rcases m with _ | _ | m
  · exact fun_ok (d + 2) _ (cW_ok d _ (by decide))
  · rfl
  · exact cW_ok (d + 1) _ (by decide)
theorem prog_ok (m n : Nat) : okT 30 false (progS m n) = true := by
  unfold progS
  have h1 : okT 29 false (funS n) = true := fun_ok 28 _ (body_ok 25 n)
  have h2 : okT 29 false (cW [102]) = true := cW_ok 27 _ (by decide)
  have h3 := more_ok 26 m
  rw [okT]
  simp only [okAll, show ∀ k, takesB 23 ((([funS n, cW [102], moreS m] : List Tr).length : Nat) : Int) k = false from fun k => rfl, h1, h2, h3]
  rfl
end Go.Proofs.YtclifaehbdeldaaDoor
