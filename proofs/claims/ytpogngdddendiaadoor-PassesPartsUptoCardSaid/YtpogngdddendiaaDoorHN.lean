/- What chapter 5's statements rest on, on trees, with no program in sight: depth, so many Nops, kinds and children, nests. No condition. -/
import Derived.Test.YtpogngdddendiaaDoorHG
import Derived.Test.YtpogngdddendiaaDoorConW8
set_option linter.unusedVariables false
set_option linter.unusedSimpArgs false
namespace Go.Proofs.YtpogngdddendiaaDoor

def nopT : Tr := .mk 20 0 [] []
def litT' (s : List UInt8) : Tr := .mk 1 0 s []

theorem check_flat (t : Tr) : checkP (flat t) = none ↔ okT 30 false t = true := by
  rw [check_tree _ (len0_flat t)]
  constructor
  · rintro ⟨t', h1, h2⟩
    rw [← flat_inj _ t' t (Nat.le_refl _) h2]
    exact h1
  · intro h
    exact ⟨t, h, rfl⟩

/- So many Nops. -/
theorem flatAll_nops : ∀ m, (flatAll (List.replicate m nopT)).length = m
  | 0 => by rw [List.replicate_zero, flatAll_nil]; rfl
  | m + 1 => by
    rw [List.replicate_succ, flatAll_cons, List.length_append, flatAll_nops m]
    rw [nopT, flat_size, flatAll_nil]
    simp; omega
theorem okAll_rep {f : Nat → Tr → Bool} {t : Tr} (h : ∀ k, f k t = true) : ∀ m k, okAll f k (List.replicate m t) = true
  | 0, k => rfl
  | m + 1, k => by rw [List.replicate_succ, okAll, h, okAll_rep h m]; rfl
theorem many_ok (m : Nat) (h : 2 ≤ m) : okT 30 false (.mk 23 0 [] (List.replicate m nopT)) = true := by
  rw [okT]
  have h1 : childrenB 23 ((List.replicate m nopT).length : Int) = true := by
    rw [List.length_replicate]
    simp [childrenB]
    omega
  rw [h1, okAll_rep (fun k => by rw [show takesB 23 ((List.replicate m nopT).length : Int) k = false from rfl]; rfl)]
  rfl

/- Depth. -/
mutual
def depthT : Tr → Nat
  | .mk _ _ _ ks => 1 + depthTs ks
def depthTs : List Tr → Nat
  | [] => 0
  | t :: ts => max (depthT t) (depthTs ts)
end
theorem depthT_mk (kd n : Int) (s : List UInt8) (ks : List Tr) : depthT (.mk kd n s ks) = 1 + depthTs ks := by rw [depthT]
theorem depthTs_nil : depthTs [] = 0 := by rw [depthTs]
theorem depthTs_cons (t : Tr) (ts : List Tr) : depthTs (t :: ts) = max (depthT t) (depthTs ts) := by rw [depthTs]
theorem depth_kids (t : Tr) : depthT t = 1 + depthTs t.kids := by cases t; rw [depthT_mk]; rfl
mutual
theorem depthT_len : ∀ t : Tr, depthT t ≤ (flat t).length
  | .mk kd n s ks => by
    have h := depthTs_len ks
    rw [depthT_mk, flat_size]
    omega
theorem depthTs_len : ∀ ks : List Tr, depthTs ks ≤ (flatAll ks).length
  | [] => by rw [depthTs_nil]; exact Nat.zero_le _
  | t :: ts => by
    have h1 := depthT_len t
    have h2 := depthTs_len ts
    rw [depthTs_cons, flatAll_cons, List.length_append]
    omega
end
theorem depthTs_ok {d : Nat} {g : Nat → Bool} (ih : ∀ (w : Bool) (t : Tr), okT d w t = true → depthT t ≤ d) : ∀ (ks : List Tr) (k : Nat), okAll (fun k t => okT d (g k) t) k ks = true → depthTs ks ≤ d
  | [], k, _ => by rw [depthTs_nil]; exact Nat.zero_le _
  | t :: ts, k, h => by
    rw [okAll, Bool.and_eq_true] at h
    have h1 := ih _ _ h.1
    have h2 := depthTs_ok ih ts (k + 1) h.2
    rw [depthTs_cons]
    omega
theorem depthT_ok : ∀ (d : Nat) (w : Bool) (t : Tr), okT d w t = true → depthT t ≤ d
  | 0, w, t, h => by rw [okT] at h; cases h
  | d + 1, w, .mk kd n s ks, h => by
    rw [okT] at h
    simp only [Bool.and_eq_true] at h
    have := depthTs_ok (fun w t h => depthT_ok d w t h) ks 0 h.2
    rw [depthT_mk]
    omega
/-- A stack of forests, the lowest first, from height h on. -/
def depF : Nat → List (List Tr) → Nat
  | _, [] => 0
  | h, f :: fs => max (h + depthTs f) (depF (h + 1) fs)
theorem depF_append : ∀ (F G : List (List Tr)) (h : Nat), depF h (F ++ G) = max (depF h F) (depF (h + F.length) G)
  | [], G, h => by simp [depF]
  | f :: F, G, h => by
    rw [List.cons_append, depF, depF, depF_append F G, List.length_cons, show h + 1 + F.length = h + (F.length + 1) by omega]
    omega
theorem depF_pop (F : List (List Tr)) (most : Nat) (h : F.length + 1 ≤ most) : max most (depF 1 (F ++ [[]])) = max most (depF 1 F) := by
  rw [depF_append]
  simp only [depF, depthTs_nil]
  omega
theorem depF_push (F : List (List Tr)) (t : Tr) (ts : List Tr) (most : Nat) : max (max most (F.length + 2)) (depF 1 (F ++ [ts, t.kids])) = max most (depF 1 (F ++ [t :: ts])) := by
  rw [depF_append, depF_append]
  simp only [depF, depthTs_cons, depth_kids]
  omega

/- Nests. -/
def nestT (c : Nat) : Nat → Tr
  | 0 => nopT
  | n + 1 => if c = 0 then .mk 27 0 [] [nestT c n] else if c = 1 then .mk 25 0 [] [nopT, nestT c n] else .mk 31 0 [102] [nestT c n]
def nestAt (c : Nat) : Nat := if c = 1 then 59 else 30
theorem nest_all : ((List.range 3).all fun c => (List.range 64).all fun n => decide (checkP (flat (nestT c n)) = if n + 1 ≤ 30 then none else some (nestAt c, true))) = true := by kernel_rfl
theorem nest_check (c n : Nat) (hc : c < 3) (hn : n < 64) : checkP (flat (nestT c n)) = if n + 1 ≤ 30 then none else some (nestAt c, true) := by
  have h := List.all_eq_true.1 (List.all_eq_true.1 nest_all c (List.mem_range.2 hc)) n (List.mem_range.2 hn)
  exact of_decide_eq_true h
theorem nest_depth (c : Nat) : ∀ n, depthT (nestT c n) = n + 1
  | 0 => by rw [nestT, nopT, depthT_mk, depthTs_nil]
  | n + 1 => by
    have ih := nest_depth c n
    rw [nestT]
    repeat' split
    all_goals
      rw [depthT_mk]
      simp only [depthTs_cons, depthTs_nil, ih, nopT, depthT_mk]
      omega
theorem nest_len (c : Nat) : ∀ n, (flat (nestT c n)).length ≤ 2 * n + 1
  | 0 => by rw [nestT, nopT, flat_size, flatAll_nil]; exact Nat.le_refl _
  | n + 1 => by
    have ih := nest_len c n
    rw [nestT]
    repeat' split
    all_goals
      rw [flat_size]
      simp only [flatAll_cons, flatAll_nil, List.append_nil, List.length_append, nopT, flat_size, List.length_nil]
      omega

/- Kinds. -/
def kidT (b : Bool) : Tr := if b then nopT else .mk 1 0 [97] []
def cntT (bs : List Bool) : Nat := bs.countP id
def lastB (bs : List Bool) : Bool := bs.getLast?.getD false
def caseB : Nat → List Bool → Bool
  | _, [] => true
  | i, b :: bs => (b == (decide (0 < i) && i % 2 == 0)) && caseB (i + 1) bs
def mayB (kind : Int) (bs : List Bool) : Bool :=
  let k := bs.length
  let c := cntT bs
  if kind == 20 then k == 0
  else if kind == 21 then decide (1 ≤ k) && c == 0
  else if kind == 22 || kind == 36 then k == 1 && c == 0
  else if kind == 23 || kind == 32 then decide (2 ≤ k) && c == k
  else if kind == 24 then k == 3 && c == 3
  else if kind == 25 || kind == 26 || kind == 28 then k == 2 && c == 2
  else if kind == 27 || kind == 31 then k == 1 && c == 1
  else if kind == 29 || kind == 35 || kind == 33 || kind == 34 then k == 2 && c == 1 && lastB bs
  else if kind == 37 then decide (1 ≤ k) && c == 1 && lastB bs
  else k % 2 == 1 && caseB 0 bs
def namB (kind : Int) : Bool := kind == 22 || kind == 29 || kind == 31 || kind == 35
def boolLists : Nat → List (List Bool)
  | 0 => [[]]
  | n + 1 => [] :: (boolLists n).flatMap fun l => [true :: l, false :: l]
theorem mem_boolLists : ∀ (n : Nat) (l : List Bool), l.length ≤ n → l ∈ boolLists n
  | 0, [], _ => by simp [boolLists]
  | n + 1, [], _ => by simp [boolLists]
  | n + 1, b :: l, h => by
    have := mem_boolLists n l (by simpa using h)
    simp only [boolLists, List.mem_cons, List.mem_flatMap]
    refine .inr ⟨l, this, ?_⟩
    cases b <;> simp
def kindT (kind : Int) (bs : List Bool) (name : Bool) : Tr := .mk kind (if kind == 33 then 2 else 0) (if name then [120] else []) (bs.map kidT)
def kindsOk (kd : Nat) : Bool := (boolLists 7).all fun bs => (okT 30 false (kindT (20 + kd) bs true) == (mayB (20 + kd) bs && (namB (20 + kd) == true))) && (okT 30 false (kindT (20 + kd) bs false) == (mayB (20 + kd) bs && (namB (20 + kd) == false)))
theorem kinds_all : ((List.range 18).all kindsOk) = true := by kernel_rfl
theorem kinds_ok (kind : Int) (bs : List Bool) (name : Bool) (h1 : 20 ≤ kind) (h2 : kind ≤ 37) (hb : bs.length ≤ 7) : okT 30 false (kindT kind bs name) = (mayB kind bs && (namB kind == name)) := by
  have h := List.all_eq_true.1 kinds_all (kind - 20).toNat (List.mem_range.2 (by omega))
  have h3 := List.all_eq_true.1 h bs (mem_boolLists 7 bs hb)
  rw [show (20 : Int) + ((kind - 20).toNat : Int) = kind by omega, Bool.and_eq_true, beq_iff_eq, beq_iff_eq] at h3
  cases name
  · exact h3.2
  · exact h3.1
theorem flatAll_kid : ∀ bs : List Bool, (flatAll (bs.map kidT)).length = bs.length
  | [] => by rw [List.map_nil, flatAll_nil]; rfl
  | b :: bs => by
    rw [List.map_cons, flatAll_cons, List.length_append, flatAll_kid bs]
    cases b <;> simp [kidT, nopT, flat_size, flatAll_nil] <;> omega
end Go.Proofs.YtpogngdddendiaaDoor

/- The walks over consts.Pass, consts.Word at trees that may be; chapter 17's examples hold. What the package-level errors hold is a hypothesis. -/
set_option linter.unusedVariables false
set_option linter.unusedSimpArgs false
namespace Go.Proofs.YtpogngdddendiaaDoor
open Go.RowKit

theorem many_falseC {t : Tr} (h : (flat t).length ≤ 3000) : manyB (flat t) = false := by
  have := flat_pos t
  simp only [manyB, Bool.or_eq_false_iff, beq_eq_false_iff_ne, decide_eq_false_iff_not]
  omega
theorem check_okC (v : Value) (t : Tr) (aN aT aM : Addr) (w : World) (hok : okT 30 false t = true) (hn : (flat t).length ≤ 3000) (hnd : ∀ x ∈ flat t, NdOk x) (hv : SlRd w v (flat t)) (hE : ErrW w aN aT aM) :
    Calls Tryd.prog 9 #[v] w (Ret w .nilIface) := by
  refine (check_v v (flat t) aN aT aM w (by omega) hnd hv hE).mono ?_
  rintro e w' ⟨u, rfl, hu, hb⟩
  rw [many_falseC hn, if_neg Bool.noConfusion, (check_flat t).2 hok] at hu
  obtain rfl : u = Value.nilIface := hu
  exact ⟨rfl, hb⟩
theorem cpass_tree (v : Value) (t : Tr) (aN aT aM : Addr) (w : World) (hok : okT 30 false t = true) (hn : (flat t).length ≤ 3000) (hv : SlRd w v (flat t)) (hE : ErrW w aN aT aM) :
    Calls Tryd.prog 82 #[v] w (VRet (flat (constT t)) w) := by
  have CK := Lib.hid (check_okC v t aN aT aM w hok hn (ok_nd ⟨30, false, hok⟩ (by omega)) hv hE)
  have CW := Lib.hid (fun W (hb : Below w.heap.size w W) => cwhole_any 3000 t v W hn (by decide) ⟨30, false, hok⟩ (hv.below hb))
  obtain ⟨A, c, rfl, -⟩ := hv
  generalize (flat t).length = m at *
  clear hok hn hE
  go_enter Tryd.func82, Tryd.ntmps82
  go_wp2_with fail
  refine CK.out.mono ?_
  rintro e w1 ⟨rfl, hb⟩
  go_wp2_with fail
  refine (CW.out _ hb).mono ?_
  rintro e w2 ⟨A2, n2, c2, rfl, o2, hb2⟩
  have O2 := Lib.hid (o2.mono hb.size)
  have hb12 := hb.trans (hb2.mono hb.size)
  clear o2
  go_wp2_with fail
  go_ret
  exact ⟨A2, n2, c2, rfl, O2.out, hb12⟩
def setT (t : Tr) : Tr := .mk 22 0 [120] [t]
theorem setT_ok {t : Tr} (h : okT 29 true t = true) : okT 30 false (setT t) = true := by
  rw [setT, okT]
  simp only [Bool.and_eq_true]
  refine ⟨⟨⟨by decide, by kernel_rfl⟩, rfl⟩, ?_⟩
  rw [okAll, okAll]
  rw [Bool.and_true]
  exact h
theorem sameT_yes (va vb : Value) (t : Tr) (w : World) (ha : SlRd w va (flat t)) (hb : SlRd w vb (flat t)) (hl : (flat t).length ≤ 4000000) : Calls Tryd.prog 21 #[va, vb] w (Ret w (.bool true)) := by
  have h := same_v va vb _ _ w ha hb hl hl
  rw [(sameL_iff _ _).2 rfl] at h
  exact h
def lT (s : List UInt8) : Tr := .mk 1 0 s []
def callAB : Tr := .mk 21 0 [] [lT [97], lT [98]]
def wT1 : Tr := .mk 4 0 [] [lT [97], lT [98], .mk 2 0 [120] []]
def wT2 : Tr := .mk 6 0 [] [.mk 1 1 [97, 92, 42] []]
def wT3 : Tr := .mk 5 0 [] [lT [32, 97]]
def rT1 : Tr := .mk 4 0 [] [lT [97, 98], .mk 2 0 [120] []]
theorem const1 : constT wT1 = rT1 := by kernel_rfl
theorem const2 : constT wT2 = lT [97, 42] := by kernel_rfl
theorem const3 : constT wT3 = .mk 1 1 [97] [] := by kernel_rfl
theorem const4 : constT callAB = callAB := by kernel_rfl
end Go.Proofs.YtpogngdddendiaaDoor
