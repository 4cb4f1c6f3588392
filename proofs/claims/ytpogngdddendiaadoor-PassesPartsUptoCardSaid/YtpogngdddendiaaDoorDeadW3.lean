/- The walks over dead.around and dead.rule. Bounds on the lengths. -/
import Derived.Test.YtpogngdddendiaaDoorDeadW2
import Derived.Test.YtpogngdddendiaaDoorHL
import Derived.Outline
set_option linter.unusedVariables false
set_option linter.unusedSimpArgs false
namespace Go.Proofs.YtpogngdddendiaaDoor
open Go.RowKit

def RuleRet (r : Option Tr) (B : Nat) (w : World) (e : Ending) (w' : World) : Prop := match r with
  | none => ∃ v, e = .returned (.tuple #[v, .bool false]) ∧ Below w.heap.size w w'
  | some t => ∃ A n c, e = .returned (.tuple #[.slice A n c, .bool true]) ∧ OwnNd w' B (.slice A n c) (flat t) ∧ Below w.heap.size w w'
def aroundT (kd : Int) (a b : Tr) : Option Tr := if !silT a then none else if b.kind == 20 then some b else if kd == 34 && b.kind == 34 && (match b.kids with | x :: _ => silT x | _ => false) then some b else none

set_option maxRecDepth 100000 in
set_option maxHeartbeats 2000000 in
theorem daround_any (lv : Value) (Ak : Option Addr) (ck m B : Nat) (t a b : Tr) (r : List Tr) (w : World) (hv : SlRd w lv (flat t)) (hk : KdOD w B Ak ((a :: b :: r).map flat)) (hm : m = (a :: b :: r).length) (hB : B ≤ w.heap.size)
    (hb34 : b.kind = 34 → ∃ x y, b.kids = x :: y) (hza : (flat a).length ≤ 4000000) (hzb : (flat b).length ≤ 4000000) :
    Calls Tryd.prog 156 #[lv, .slice Ak m ck] w (RuleRet (aroundT t.kind a b) B w) := by
  obtain ⟨b0, o0, n0, c0, A0, rfl, _, f0, k0⟩ := (hk).at_ (k := 0) (by simp)
  simp only [List.map_cons, List.map_nil, List.getElem_cons_zero, List.getElem_cons_succ, Nat.add_zero, List.getElem_map] at f0 k0
  obtain ⟨b1, o1, n1, c1, A1, he1, _, f1, k1⟩ := (hk).at_ (k := 1) (by simp)
  simp only [List.map_cons, List.map_nil, List.getElem_cons_zero, List.getElem_cons_succ, Nat.add_zero, List.getElem_map] at f1 k1
  simp only [Option.some.injEq, Addr.mk.injEq, and_true] at he1
  obtain ⟨he1a, he1b⟩ := he1
  subst he1a he1b
  have hm2 : 2 ≤ m := by rw [hm]; simp
  have S0 := Lib.hid (silent_v _ a w k0.rd hza)
  have HV := Lib.hid hv
  have K1 := Lib.hid k1
  obtain ⟨sa, hsa⟩ : ∃ q, silT a = q := ⟨_, rfl⟩
  obtain ⟨q20, hq20⟩ : ∃ q, (b.kind == 20) = q := ⟨_, rfl⟩
  obtain ⟨q34, hq34⟩ : ∃ q, (b.kind == 34) = q := ⟨_, rfl⟩
  obtain ⟨p34, hp34⟩ : ∃ q, (t.kind == 34) = q := ⟨_, rfl⟩
  rw [hsa] at S0
  have HR := Lib.hid (show aroundT t.kind a b = if !sa then none else if q20 then some b else if p34 && q34 && (match b.kids with | x :: _ => silT x | _ => false) then some b else none by unfold aroundT; rw [hsa, hq20, hq34, hp34])
  have H20 := Lib.hid hq20
  have H34 := Lib.hid hq34
  have P34 := Lib.hid hp34
  have HB34 := Lib.hid hb34
  obtain ⟨Al, nl, cl, rfl⟩ : ∃ Al nl cl, lv = .slice Al nl cl := by obtain ⟨A', c', h, _⟩ := hv; exact ⟨_, _, _, h⟩
  clear hv hk k0 k1 hm hsa hq20 hq34 hp34 hb34 hza
  go_enter Tryd.func156, Tryd.ntmps156
  go_wp2_with fail
  refine S0.out.mono ?_
  rintro e w1 ⟨rfl, hb1⟩
  have g1 := cell_keep hb1 f1
  have IS1 := Lib.hid (is_v _ b 20 w1 (K1.out.rd.below hb1))
  have IS2 := Lib.hid (is_v _ b 34 w1 (K1.out.rd.below hb1))
  have IS3 := Lib.hid (is_v _ t 34 w1 (HV.out.below hb1))
  rw [H20.out] at IS1
  rw [H34.out] at IS2
  rw [P34.out] at IS3
  clear S0 f0 f1
  cases sa
  · go_wp2_with fail
    go_ret2
    rw [HR.out]
    exact ⟨_, rfl, hb1⟩
  cases q20
  case true =>
    have K1' := Lib.hid (K1.out.below hb1)
    go_wp2_with fail
    refine IS1.out.mono ?_
    rintro e w2 ⟨rfl, rfl⟩
    go_wp2_with fail
    go_ret2
    rw [HR.out]
    exact ⟨_, _, _, rfl, K1'.out, hb1⟩
  case false =>
  cases p34
  · go_wp2_with fail
    refine IS1.out.mono ?_
    rintro e w2 ⟨rfl, rfl⟩
    go_wp2_with fail
    refine IS3.out.mono ?_
    rintro e w2 ⟨rfl, rfl⟩
    go_wp2_with fail
    go_ret2
    rw [HR.out]
    exact ⟨_, rfl, hb1⟩
  cases q34
  · go_wp2_with fail
    refine IS1.out.mono ?_
    rintro e w2 ⟨rfl, rfl⟩
    go_wp2_with fail
    refine IS3.out.mono ?_
    rintro e w2 ⟨rfl, rfl⟩
    go_wp2_with fail
    refine IS2.out.mono ?_
    rintro e w2 ⟨rfl, rfl⟩
    go_wp2_with fail
    go_ret2
    rw [HR.out]
    exact ⟨_, rfl, hb1⟩
  obtain ⟨x, y, hxy⟩ := HB34.out (by simpa using H34.out)
  have hfx : (flat x).length ≤ 4000000 := by
    have h1 := flat_kids_le b
    rw [hxy, flatAll_cons, List.length_append] at h1
    omega
  have KC := Lib.hid (show Calls Tryd.prog 64 #[.slice A1 n1 c1] w1 (KidsRet (b.kids.map flat) w1) by rw [← kidsL_tree]; exact kids_any _ _ w1 (K1.out.rd.below hb1) hzb)
  rw [hxy] at KC HR
  have HFX := Lib.hid hfx
  clear hxy hfx
  go_wp2_with fail
  refine IS1.out.mono ?_
  rintro e w2 ⟨rfl, rfl⟩
  go_wp2_with fail
  refine IS3.out.mono ?_
  rintro e w2 ⟨rfl, rfl⟩
  go_wp2_with fail
  refine IS2.out.mono ?_
  rintro e w2 ⟨rfl, rfl⟩
  go_wp2_with fail
  refine KC.out.mono ?_
  rintro e w3 ⟨A5, c5, vs5, rfl, ho5, hl5, hb3⟩
  have hkr := KdRd.of_own ho5 rfl hl5
  obtain ⟨bx, ox, vx, rfl, _, hcx, hsx⟩ := hkr.at_ (k := 0) (by simp)
  simp only [List.map_cons, List.getElem_cons_zero, Nat.add_zero] at hcx hsx
  have SX := Lib.hid (silent_v vx x w3 hsx HFX.out)
  obtain ⟨sx, hsx2⟩ : ∃ q, silT x = q := ⟨_, rfl⟩
  rw [hsx2] at SX
  have HR2 := Lib.hid (show aroundT t.kind a b = if sx then some b else none by rw [HR.out]; simp [hsx2])
  obtain ⟨Ax, nx, cx, rfl⟩ : ∃ Al nl cl, vx = .slice Al nl cl := by obtain ⟨A', c', h, _⟩ := hsx; exact ⟨_, _, _, h⟩
  have hl : (List.map flat (x :: y)).length = y.length + 1 := by simp
  rw [hl] at ho5 ⊢
  have g13 := cell_keep hb3 g1
  have hb13 := hb1.trans (hb3.mono hb1.size)
  have K13 := Lib.hid ((K1.out.below hb1).below hb3)
  clear hsx hsx2 hkr ho5 hl5 HR hl
  go_wp2_with fail
  refine SX.out.mono ?_
  rintro e w4 ⟨rfl, hb4⟩
  have g14 := cell_keep hb4 g13
  have hb14 := hb13.trans (hb4.mono hb13.size)
  have K14 := Lib.hid (K13.out.below hb4)
  clear g13 g1 hcx
  cases sx
  · go_wp2_with fail
    go_ret2
    rw [HR2.out]
    exact ⟨_, rfl, hb14⟩
  · go_wp2_with fail
    go_ret2
    rw [HR2.out]
    exact ⟨_, _, _, rfl, K14.out, hb14⟩

theorem own_at {w : World} {B : Nat} {v : Value} {L : List Nd} (h : OwnNd w B v L) : SlRd w v L := h.rd
/-- the first node's kind -/
theorem kind_cell {w : World} {Al : Option Addr} {nl cl : Nat} {t : Tr} (h : SlRd w (.slice Al nl cl) (flat t)) : ∃ b o, Al = some ⟨b, o, none⟩ ∧ 0 < nl ∧ w.cell? ⟨b, o, none⟩ = some (.int .i64 t.kind) := by
  obtain ⟨A', c', he, hrd, _⟩ := h
  injection he with h1 h2 h3
  subst h1 h2
  have hp := flat_pos t
  obtain ⟨b, o, rfl, _⟩ := hrd.addr hp
  have hx := hrd.at_ hp
  rw [flat_get0] at hx
  have c0 := hx.2 0 _ rfl
  simp only [Nat.zero_mul, Nat.add_zero] at c0
  exact ⟨b, o, rfl, hp, c0⟩
theorem ruleT_mk (kd n : Int) (s : List UInt8) (ks : List Tr) : ruleT (.mk kd n s ks) = ruleK kd ks := rfl

theorem rule23 (lv : Value) (Ak : Option Addr) (ck m B : Nat) (n : Int) (s : List UInt8) (ks : List Tr) (w : World) (hv : SlRd w lv (flat (.mk 23 n s ks))) (hk : KdOD w B Ak (ks.map flat)) (hm : m = ks.length) (hB : B ≤ w.heap.size) (hz : (flatAll ks).length ≤ 4000000) :
    Calls Tryd.prog 135 #[lv, .slice Ak m ck] w (RuleRet (ruleT (.mk 23 n s ks)) B w) := by
  obtain ⟨Al, nl, cl, rfl⟩ : ∃ Al nl cl, lv = .slice Al nl cl := by obtain ⟨A', c', h, _⟩ := hv; exact ⟨_, _, _, h⟩
  obtain ⟨bl, ol, rfl, hnl, d0⟩ := kind_cell hv
  have HV := Lib.hid hv
  replace d0 : w.cell? ⟨bl, ol, none⟩ = some (.int .i64 23) := d0
  clear hv
  have SC := Lib.hid (dseq_any Ak ck m B ks w hk hB hm hz)
  have HR := Lib.hid (show ruleT (.mk 23 n s ks) = if same2 (dropN (seqAll ks)) (seqAll ks) ks then none else some (seqT (dropN (seqAll ks))) from rfl)
  clear hk hm hz
  go_enter Tryd.func135, Tryd.ntmps135
  go_wp2_with fail
  refine SC.out.mono ?_
  rintro e w1 ⟨A1, n1, c1, rfl, o1, hb1⟩
  have H1 := Lib.hid (o1.mono hB)
  obtain ⟨q, hq⟩ : ∃ q, same2 (dropN (seqAll ks)) (seqAll ks) ks = q := ⟨_, rfl⟩
  rw [hq] at HR ⊢
  clear o1 hq
  cases q
  · go_wp2_with fail
    go_ret2
    rw [HR.out]
    exact ⟨_, _, _, rfl, H1.out, hb1⟩
  · go_wp2_with fail
    go_ret2
    rw [HR.out]
    exact ⟨_, rfl, hb1⟩

/- If, And: its first child is a Nop -/
theorem rule26 (lv : Value) (Ak : Option Addr) (ck m B : Nat) (n : Int) (s : List UInt8) (a b : Tr) (w : World) (hv : SlRd w lv (flat (.mk 26 n s [a, b]))) (hk : KdOD w B Ak ([a, b].map flat)) (hm : m = 2) (hB : B ≤ w.heap.size) :
    Calls Tryd.prog 135 #[lv, .slice Ak m ck] w (RuleRet (ruleT (.mk 26 n s [a, b])) B w) := by
  subst hm
  obtain ⟨Al, nl, cl, rfl⟩ : ∃ Al nl cl, lv = .slice Al nl cl := by obtain ⟨A', c', h, _⟩ := hv; exact ⟨_, _, _, h⟩
  obtain ⟨bl, ol, rfl, hnl, d0⟩ := kind_cell hv
  have HV := Lib.hid hv
  replace d0 : w.cell? ⟨bl, ol, none⟩ = some (.int .i64 26) := d0
  clear hv
  obtain ⟨b0, o0, n0, c0, A0, rfl, _, f0, k0⟩ := (hk).at_ (k := 0) (by simp)
  simp only [List.map_cons, List.map_nil, List.getElem_cons_zero, List.getElem_cons_succ, Nat.add_zero, List.getElem_map] at f0 k0
  have K0 := Lib.hid k0
  obtain ⟨q, hq⟩ : ∃ q, (a.kind == 20) = q := ⟨_, rfl⟩
  have IS := Lib.hid (is_v _ a 20 w k0.rd)
  rw [hq] at IS
  have HR := Lib.hid (show ruleT (.mk 26 n s [a, b]) = if q then some a else none by rw [← hq]; rfl)
  clear hk k0 hq
  go_enter Tryd.func135, Tryd.ntmps135
  go_wp2_with fail
  refine IS.out.mono ?_
  rintro e w1 ⟨rfl, rfl⟩
  cases q
  · go_wp2_with fail
    go_ret2
    rw [HR.out]
    exact ⟨_, rfl, Below.refl _ _⟩
  · go_wp2_with fail
    go_ret2
    rw [HR.out]
    exact ⟨_, _, _, rfl, K0.out, Below.refl _ _⟩
theorem rule25 (lv : Value) (Ak : Option Addr) (ck m B : Nat) (n : Int) (s : List UInt8) (a b : Tr) (w : World) (hv : SlRd w lv (flat (.mk 25 n s [a, b]))) (hk : KdOD w B Ak ([a, b].map flat)) (hm : m = 2) (hB : B ≤ w.heap.size) :
    Calls Tryd.prog 135 #[lv, .slice Ak m ck] w (RuleRet (ruleT (.mk 25 n s [a, b])) B w) := by
  subst hm
  obtain ⟨Al, nl, cl, rfl⟩ : ∃ Al nl cl, lv = .slice Al nl cl := by obtain ⟨A', c', h, _⟩ := hv; exact ⟨_, _, _, h⟩
  obtain ⟨bl, ol, rfl, hnl, d0⟩ := kind_cell hv
  have HV := Lib.hid hv
  replace d0 : w.cell? ⟨bl, ol, none⟩ = some (.int .i64 25) := d0
  clear hv
  obtain ⟨b0, o0, n0, c0, A0, rfl, _, f0, k0⟩ := (hk).at_ (k := 0) (by simp)
  simp only [List.map_cons, List.map_nil, List.getElem_cons_zero, List.getElem_cons_succ, Nat.add_zero, List.getElem_map] at f0 k0
  obtain ⟨b1, o1, n1, c1, A1, he1, _, f1, k1⟩ := (hk).at_ (k := 1) (by simp)
  simp only [List.map_cons, List.map_nil, List.getElem_cons_zero, List.getElem_cons_succ, Nat.add_zero, List.getElem_map] at f1 k1
  simp only [Option.some.injEq, Addr.mk.injEq, and_true] at he1
  obtain ⟨he1a, he1b⟩ := he1
  subst he1a he1b
  have K0 := Lib.hid k0
  have K1 := Lib.hid k1
  obtain ⟨q, hq⟩ : ∃ q, (a.kind == 20) = q := ⟨_, rfl⟩
  have IS := Lib.hid (is_v _ a 20 w k0.rd)
  rw [hq] at IS
  have IL := Lib.hid (is_v _ _ 24 w HV.out)
  have HR := Lib.hid (show ruleT (.mk 25 n s [a, b]) = if q then some b else none by rw [← hq]; rfl)
  clear hk k0 k1 hq
  go_enter Tryd.func135, Tryd.ntmps135
  go_wp2_with fail
  refine IS.out.mono ?_
  rintro e w1 ⟨rfl, rfl⟩
  cases q
  · go_wp2_with fail
    refine IL.out.mono ?_
    rintro e w1 ⟨rfl, rfl⟩
    rw [show ((Tr.mk 25 n s [a, b]).kind == 24) = false from rfl]
    go_wp2_with fail
    go_ret2
    rw [HR.out]
    exact ⟨_, rfl, Below.refl _ _⟩
  · go_wp2_with fail
    go_ret2
    rw [HR.out]
    exact ⟨_, _, _, rfl, K1.out, Below.refl _ _⟩
theorem rule27 (lv : Value) (Ak : Option Addr) (ck m B : Nat) (n : Int) (s : List UInt8) (a : Tr) (w : World) (hv : SlRd w lv (flat (.mk 27 n s [a]))) (hk : KdOD w B Ak ([a].map flat)) (hm : m = 1) (hB : B ≤ w.heap.size) (ha : a.kind = 27 → ∃ x, a.kids = [x]) (hz : (flat a).length ≤ 4000000) :
    Calls Tryd.prog 135 #[lv, .slice Ak m ck] w (RuleRet (ruleT (.mk 27 n s [a])) B w) := by
  subst hm
  obtain ⟨Al, nl, cl, rfl⟩ : ∃ Al nl cl, lv = .slice Al nl cl := by obtain ⟨A', c', h, _⟩ := hv; exact ⟨_, _, _, h⟩
  obtain ⟨bl, ol, rfl, hnl, d0⟩ := kind_cell hv
  have HV := Lib.hid hv
  replace d0 : w.cell? ⟨bl, ol, none⟩ = some (.int .i64 27) := d0
  clear hv
  obtain ⟨b0, o0, n0, c0, A0, rfl, _, f0, k0⟩ := (hk).at_ (k := 0) (by simp)
  simp only [List.map_cons, List.map_nil, List.getElem_cons_zero, List.getElem_cons_succ, Nat.add_zero, List.getElem_map] at f0 k0
  have K0 := Lib.hid k0
  obtain ⟨q, hq⟩ : ∃ q, (a.kind == 27) = q := ⟨_, rfl⟩
  have IS := Lib.hid (is_v _ a 27 w k0.rd)
  rw [hq] at IS
  cases q
  · have HR := Lib.hid (show ruleT (.mk 27 n s [a]) = none by simp [ruleT_mk, ruleK, hq])
    clear hk k0 hq ha
    go_enter Tryd.func135, Tryd.ntmps135
    go_wp2_with fail
    refine IS.out.mono ?_
    rintro e w1 ⟨rfl, rfl⟩
    go_wp2_with fail
    go_ret2
    rw [HR.out]
    exact ⟨_, rfl, Below.refl _ _⟩
  · obtain ⟨x, hx⟩ := ha (by simpa using hq)
    obtain ⟨p, hp⟩ : ∃ p, (x.kind == 27) = p := ⟨_, rfl⟩
    have HR := Lib.hid (show ruleT (.mk 27 n s [a]) = if p then some x else none by simp [ruleT_mk, ruleK, hq, hx, hp])
    have KC := Lib.hid (show Calls Tryd.prog 64 #[.slice A0 n0 c0] w (KidsRet (a.kids.map flat) w) by rw [← kidsL_tree]; exact kids_any _ _ w k0.rd hz)
    rw [hx] at KC
    have HP := Lib.hid hp
    clear hk k0 hq ha hx hp
    go_enter Tryd.func135, Tryd.ntmps135
    go_wp2_with fail
    refine IS.out.mono ?_
    rintro e w1 ⟨rfl, rfl⟩
    go_wp2_with fail
    refine KC.out.mono ?_
    rintro e w3 ⟨A5, c5, vs5, rfl, ho5, hl5, hb3⟩
    have hkr : KdOD w3 w1.heap.size A5 ([x].map flat) := by
      obtain ⟨h1, _, _⟩ := rd_one ho5 hl5.1.symm
      exact ⟨vs5, h1, hl5⟩
    obtain ⟨bx, ox, nx, cx, Ax, rfl, _, hcx, hox⟩ := hkr.at_ (k := 0) (by simp)
    simp only [List.map_cons, List.map_nil, List.getElem_cons_zero, Nat.add_zero] at hcx hox
    have IX := Lib.hid (is_v _ x 27 w3 hox.rd)
    rw [HP.out] at IX
    have HO := Lib.hid (hox.mono hB)
    have hl : (List.map flat [x]).length = 1 := rfl
    rw [hl] at ho5 ⊢
    clear hkr ho5 hl5 hox hl
    go_wp2_with fail
    refine IX.out.mono ?_
    rintro e w4 ⟨rfl, rfl⟩
    cases p
    · go_wp2_with fail
      go_ret2
      rw [HR.out]
      exact ⟨_, rfl, hb3⟩
    · go_wp2_with fail
      go_ret2
      rw [HR.out]
      exact ⟨_, _, _, rfl, HO.out, hb3⟩

theorem rule34 (kd : Int) (hkd : kd = 34 ∨ kd = 35) (lv : Value) (Ak : Option Addr) (ck m B : Nat) (n : Int) (s : List UInt8) (a b : Tr) (w : World) (hv : SlRd w lv (flat (.mk kd n s [a, b]))) (hk : KdOD w B Ak ([a, b].map flat)) (hm : m = 2) (hB : B ≤ w.heap.size)
    (hb34 : b.kind = 34 → ∃ x y, b.kids = x :: y) (hza : (flat a).length ≤ 4000000) (hzb : (flat b).length ≤ 4000000) :
    Calls Tryd.prog 135 #[lv, .slice Ak m ck] w (RuleRet (ruleT (.mk kd n s [a, b])) B w) := by
  have AR := Lib.hid (daround_any lv Ak ck m B (.mk kd n s [a, b]) a b [] w hv hk hm hB hb34 hza hzb)
  rw [show aroundT (Tr.mk kd n s [a, b]).kind a b = ruleT (.mk kd n s [a, b]) by rcases hkd with rfl | rfl <;> rfl] at AR
  have AR2 : Hid (∀ e w', RuleRet (ruleT (.mk kd n s [a, b])) B w e w' → ∃ v bb, e = .returned (.tuple #[v, .bool bb]) ∧ RuleRet (ruleT (.mk kd n s [a, b])) B w (.returned (.tuple #[v, .bool bb])) w') := by
    intro e w' h
    cases hr : ruleT (.mk kd n s [a, b]) with
    | none =>
      rw [hr] at h
      obtain ⟨v, rfl, hb⟩ := h
      exact ⟨v, false, rfl, v, rfl, hb⟩
    | some t =>
      rw [hr] at h
      obtain ⟨A9, n9, c9, rfl, ho, hb⟩ := h
      exact ⟨_, true, rfl, A9, n9, c9, rfl, ho, hb⟩
  generalize ruleT (.mk kd n s [a, b]) = R at *
  obtain ⟨Al, nl, cl, rfl⟩ : ∃ Al nl cl, lv = .slice Al nl cl := by obtain ⟨A', c', h, _⟩ := hv; exact ⟨_, _, _, h⟩
  obtain ⟨bl, ol, rfl, hnl, d0⟩ := kind_cell hv
  have HV := Lib.hid hv
  replace d0 : w.cell? ⟨bl, ol, none⟩ = some (.int .i64 kd) := d0
  clear hv
  clear hk hm hb34 hza hzb
  rcases hkd with rfl | rfl
  all_goals
    go_enter Tryd.func135, Tryd.ntmps135
    go_wp2_with fail
    refine AR.out.mono ?_
    intro e w1 h1
    obtain ⟨v, bb, rfl, h2⟩ := AR2.out e w1 h1
    have H2 := Lib.hid h2
    clear h1 h2
    go_wp2_with fail
    go_ret2
    exact H2.out
theorem rule30 (lv : Value) (Ak : Option Addr) (ck m B : Nat) (n : Int) (s : List UInt8) (a : Tr) (r : List Tr) (w : World) (hv : SlRd w lv (flat (.mk 30 n s (a :: r)))) (hk : KdOD w B Ak ((a :: r).map flat)) (hm : m = (a :: r).length) (hB : B ≤ w.heap.size) (hz : (flat a).length ≤ 4000000) (hml : m ≤ 4000000) :
    Calls Tryd.prog 135 #[lv, .slice Ak m ck] w (RuleRet (ruleT (.mk 30 n s (a :: r))) B w) := by
  obtain ⟨Al, nl, cl, rfl⟩ : ∃ Al nl cl, lv = .slice Al nl cl := by obtain ⟨A', c', h, _⟩ := hv; exact ⟨_, _, _, h⟩
  obtain ⟨bl, ol, rfl, hnl, d0⟩ := kind_cell hv
  have HV := Lib.hid hv
  replace d0 : w.cell? ⟨bl, ol, none⟩ = some (.int .i64 30) := d0
  clear hv
  obtain ⟨b0, o0, n0, c0, A0, rfl, _, f0, k0⟩ := (hk).at_ (k := 0) (by simp)
  simp only [List.map_cons, List.map_nil, List.getElem_cons_zero, List.getElem_cons_succ, Nat.add_zero, List.getElem_map] at f0 k0
  rcases r with _ | ⟨u, r⟩
  · obtain rfl : m = 1 := hm
    have SA := Lib.hid (silent_v _ a w k0.rd hz)
    obtain ⟨q, hq⟩ : ∃ q, silT a = q := ⟨_, rfl⟩
    rw [hq] at SA
    have HR := Lib.hid (show ruleT (.mk 30 n s [a]) = if q then some nopT else none by rw [← hq]; rfl)
    have SQ := Lib.hid (fun W => seq_any none 0 0 [] W (KdRd.nil _ _) rfl (by decide +kernel))
    clear hk k0 hq
    go_enter Tryd.func135, Tryd.ntmps135
    go_wp2_with fail
    refine SA.out.mono ?_
    rintro e w1 ⟨rfl, hb1⟩
    clear SA
    cases q
    · go_wp2_with fail
      go_ret2
      rw [HR.out]
      exact ⟨_, rfl, hb1⟩
    · go_wp2_with fail
      refine (SQ.out w1).mono ?_
      rintro e w2 ⟨A2, n2, c2, rfl, o2, hb2⟩
      have H2 := Lib.hid (o2.mono (Nat.le_trans hB hb1.size))
      clear o2
      go_wp2_with fail
      go_ret2
      rw [HR.out]
      exact ⟨_, _, _, rfl, H2.out, hb1.trans (hb2.mono hb1.size)⟩
  · have hm1 : ((m : Int) == 1) = false := by rw [beq_eq_false_iff_ne, hm]; simp; omega
    have HR := Lib.hid (show ruleT (.mk 30 n s (a :: u :: r)) = none from rfl)
    clear hk k0 hm
    go_enter Tryd.func135, Tryd.ntmps135
    go_wp2_with fail
    go_ret2
    rw [HR.out]
    exact ⟨_, rfl, Below.refl _ _⟩
/-- no rule for any other kind -/
theorem rule_else (kd : Int) (lv : Value) (Ak : Option Addr) (ck m B : Nat) (n : Int) (s : List UInt8) (ks : List Tr) (w : World) (hv : SlRd w lv (flat (.mk kd n s ks))) (h : kd ≠ 23 ∧ kd ≠ 24 ∧ kd ≠ 25 ∧ kd ≠ 26 ∧ kd ≠ 27 ∧ kd ≠ 34 ∧ kd ≠ 35 ∧ kd ≠ 30) :
    Calls Tryd.prog 135 #[lv, .slice Ak m ck] w (RuleRet (ruleT (.mk kd n s ks)) B w) := by
  obtain ⟨h1, h2, h3, h4, h5, h6, h7, h8⟩ := h
  obtain ⟨Al, nl, cl, rfl⟩ : ∃ Al nl cl, lv = .slice Al nl cl := by obtain ⟨A', c', h, _⟩ := hv; exact ⟨_, _, _, h⟩
  obtain ⟨bl, ol, rfl, hnl, d0⟩ := kind_cell hv
  have HV := Lib.hid hv
  replace d0 : w.cell? ⟨bl, ol, none⟩ = some (.int .i64 kd) := d0
  clear hv
  have HR := Lib.hid (show ruleT (.mk kd n s ks) = none by simp [ruleT_mk, ruleK, h1, h2, h3, h4, h5, h6, h7, h8])
  have e1 : (kd == 23) = false := by simp [h1]
  have e2 : (kd == 24) = false := by simp [h2]
  have e3 : (kd == 25) = false := by simp [h3]
  have e4 : (kd == 26) = false := by simp [h4]
  have e5 : (kd == 27) = false := by simp [h5]
  have e6 : (kd == 34) = false := by simp [h6]
  have e7 : (kd == 35) = false := by simp [h7]
  have e8 : (kd == 30) = false := by simp [h8]
  clear h1 h2 h3 h4 h5 h6 h7 h8
  go_enter Tryd.func135, Tryd.ntmps135
  go_wp2_with fail
  go_ret2
  rw [HR.out]
  exact ⟨_, rfl, Below.refl _ _⟩
end Go.Proofs.YtpogngdddendiaaDoor
