/- The walks over a store's methods: what is told, and what is changed. Bounds on the lengths. -/
import Derived.Test.YtcnkljbckpkgcaaStoB
import Derived.Test.YtcnkljbckpkgcaaRelT
import Derived.Deep.DeepCutAuto
import Derived.Handy
import Derived.Outline
set_option linter.unusedVariables false
set_option linter.unusedSimpArgs false
namespace Go.Proofs.Ytcnkljbckpkgcaa
variable {X : Nat → Prop}
open Go.RowKit Go.Maps

def OwnTRet (L : List Txt) (w : World) (e : Ending) (w' : World) : Prop := ∃ v, e = .returned v ∧ OwnT w' w.heap.size v L ∧ Below w.heap.size w w'
def OwnNRet (L : List Nd) (w : World) (e : Ending) (w' : World) : Prop := ∃ v, e = .returned v ∧ OwnN w' w.heap.size v L ∧ Below w.heap.size w w'
theorem ret_sl {A : Option Addr} {n m c : Nat} (h : n = m) : Ending.returned (.slice A n c) = .returned (.slice A m c) := by rw [h]
set_option maxHeartbeats 2000000 in
theorem cloneT_any2 (v : Value) (L : List Txt) (w : World) (h : TxR w v L) (hl : L.length ≤ 8796093022208) : Calls Try.prog 33 #[v] w (OwnTRet L w) := by
  obtain ⟨A, c, rfl, hrd, hA, hc, hm⟩ := h
  obtain ⟨i0, hi, hz0, hz1, hz2⟩ := info_parts infoStr
  have hE := fun (W : World) (a : Option Addr) (n c : Nat) => Lib.run_eql_slice_nil (P := Try.prog) W 29 9 a n c 0 0 Try.underlying29
  cases A with
  | none =>
    obtain rfl := hA rfl
    obtain rfl : L = [] := List.eq_nil_of_length_eq_zero (by omega)
    go_enter Try.func33, Try.ntmps33
    go_wp2_with fail
    go_ret
    exact ⟨_, rfl, ⟨none, 0, rfl, World.ownsRow_nil _ _ _ _⟩, Below.refl _ _⟩
  | some ad =>
    have hown0 : (w.alloc (.cells #[] 9)).ownsRow w.heap.size 9 1 (.slice (some ⟨w.heap.size, 0, none⟩) 0 0) 0 [] := World.ownsRow_lit w #[] 0 (Nat.le_refl _) (by decide) rfl
    have hrd0 := hrd.alloc (.cells #[] 9)
    have hb0 : Below w.heap.size w (w.alloc (.cells #[] 9)) := (Below.refl _ _).alloc (Nat.le_refl _) _
    have hH := Lib.hid hA
    clear hA
    go_enter Try.func33, Try.ntmps33
    go_wp2_with (at_builtin; refine wpList_pushAll (enc := strc) rfl _ _ _ rfl Try.underlying29 hi hz0 hz1 hz2 rfl (by decide) hown0 rfl rfl rfl hrd0 hH.out trivial strc_len strc_one (by omega) (by decide) hb0.size ?_; intro A2 c2 w2 ho2 hb2 hoo2)
    go_ret
    exact ⟨_, ret_sl (by omega), ⟨A2, c2, rfl, by rw [Nat.zero_add, List.nil_append] at ho2; exact ho2⟩, hb0.trans hb2⟩
theorem cloneT_any (v : Value) (L : List Txt) (w : World) (h : TxR w v L) (hl : L.length ≤ 1000000) : Calls Try.prog 33 #[v] w (OwnTRet L w) := cloneT_any2 v L w h (Nat.le_trans hl (by decide))
set_option maxHeartbeats 2000000 in
theorem cloneN_any (v : Value) (L : List Nd) (w : World) (h : SlRd w v L) (hl : L.length ≤ 1000000) : Calls Try.prog 35 #[v] w (OwnNRet L w) := by
  obtain ⟨A, c, rfl, hrd, hc, hm, hA, hsp⟩ := h
  obtain ⟨i0, hi, hz0, hz1, hz2⟩ := info_parts infoNode
  have hE := fun (W : World) (a : Option Addr) (n c : Nat) => Lib.run_eql_slice_nil (P := Try.prog) W 38 58 a n c 0 0 Try.underlying38
  cases A with
  | none =>
    obtain rfl := hA rfl
    obtain rfl : L = [] := List.eq_nil_of_length_eq_zero (by omega)
    go_enter Try.func35, Try.ntmps35
    go_wp2_with fail
    go_ret
    exact ⟨_, rfl, ⟨none, 0, rfl, World.ownsRow_nil _ _ _ _⟩, Below.refl _ _⟩
  | some ad =>
    have hown0 : (w.alloc (.cells #[] 58)).ownsRow w.heap.size 58 5 (.slice (some ⟨w.heap.size, 0, none⟩) 0 0) 0 [] := World.ownsRow_lit w #[] 0 (Nat.le_refl _) (by decide) rfl
    have hrd0 := hrd.alloc (.cells #[] 58)
    have hb0 : Below w.heap.size w (w.alloc (.cells #[] 58)) := (Below.refl _ _).alloc (Nat.le_refl _) _
    have hH := Lib.hid hA
    clear hA
    go_enter Try.func35, Try.ntmps35
    go_wp2_with (at_builtin; refine wpList_pushAll (enc := ndc) rfl _ _ _ rfl Try.underlying38 hi hz0 hz1 hz2 rfl (by decide) hown0 rfl rfl rfl hrd0 hH.out hsp ndc_len ndc_one (by omega) (by decide) hb0.size ?_; intro A2 c2 w2 ho2 hb2 hoo2)
    go_ret
    exact ⟨_, ret_sl (by omega), ⟨A2, c2, rfl, by rw [Nat.zero_add, List.nil_append] at ho2; exact ho2⟩, hb0.trans hb2⟩
def txT (B : Nat) (L : List Txt) : TT := ⟨fun v => ∃ A n c, v = .slice A n c, ⟨_, none, 0, 0, rfl⟩, fun v x => OwnT x B v L, fun _ _ _ h hb => h.below hb⟩
def ndT' (B : Nat) (L : List Nd) : TT := ⟨fun v => ∃ A n c, v = .slice A n c, ⟨_, none, 0, 0, rfl⟩, fun v x => OwnN x B v L, fun _ _ _ h hb => h.below hb⟩

/-- All names and lists of a store are short. -/
structure SmS (x : Sto) : Prop where
  args : x.args.length ≤ 1000000
  vars : ∀ n l, lookA x.vars n = some l → l.length ≤ 1000000
theorem sm_set {x : Sto} (h : SmS x) {n : Txt} {l : List Txt} (hl : l.length ≤ 1000000) : SmS (setS x n l) := by
  unfold setS
  split
  · exact ⟨hl, h.vars⟩
  · refine ⟨h.args, fun m l' hm => ?_⟩
    simp only [look_put] at hm
    split at hm
    · injection hm with hm; subst hm; exact hl
    · exact h.vars m l' hm
theorem sm_unset {x : Sto} (h : SmS x) {n : Txt} : SmS (unsetS x n) := by
  unfold unsetS
  split
  · exact ⟨by simp, h.vars⟩
  · refine ⟨h.args, fun m l' hm => ?_⟩
    simp only [look_del] at hm
    split at hm
    · cases hm
    · exact h.vars m l' hm
theorem args_any (st vb fb N : Nat) (x : Sto) (F : List (Txt × List Nd)) (w : World) (h : StI X w st vb fb N x F) (hx : x.args.length ≤ 1000000) :
    Calls Try.prog 25 #[.pointer (some ⟨st, 0, none⟩)] w (OwnTRet x.args w) := by
  obtain ⟨va, hb, hr⟩ := h.blk
  have c1 := hb.cell 1
  simp only [List.getElem?_toArray, List.getElem?_cons_succ, List.getElem?_cons_zero] at c1
  have HC := Lib.hid (cloneT_any va x.args w hr.rd hx)
  obtain ⟨⟨A, c, rfl, -⟩, -⟩ := hr
  clear hb h
  generalize x.args.length = n at *
  go_enter Try.func25, Try.ntmps25
  go_wp2_with fail
  refine HC.out.mono ?_
  rintro e w1 ⟨v, rfl, h1, hb1⟩
  have H1 := Lib.hid h1
  obtain ⟨A1, c1', rfl, -⟩ := h1
  go_wp2_with fail
  go_ret
  exact ⟨_, rfl, H1.out, hb1⟩
/-- What setting leaves. -/
def SetRet (X : Nat → Prop) (st vb fb N : Nat) (x : Sto) (F : List (Txt × List Nd)) (w : World) (e : Ending) (w' : World) : Prop :=
  e = .returned (.tuple #[]) ∧ StI X w' st vb fb N x F ∧ ButS [st, vb, fb] w w'
set_option maxHeartbeats 2000000 in
theorem set_any2 (st vb fb N : Nat) (x : Sto) (F : List (Txt × List Nd)) (n : Txt) (v : Value) (l : List Txt) (w : World) (h : StI X w st vb fb N x F) (hN : N ≤ 1000000) (hn : n.length ≤ maxLen) (hv : TxR w v l) (hl : l.length ≤ 8796093022208) :
    Calls Try.prog 16 #[.pointer (some ⟨st, 0, none⟩), .string ⟨n.toArray⟩, v] w (SetRet X st vb fb (N + 1) (setS x n l) F w) := by
  have HC := Lib.hid (fun (W : World) (hb : Below w.heap.size w W) => cloneT_any2 v l W (hv.below hb) hl)
  have HI := Lib.hid h
  obtain ⟨va, hb, hr⟩ := h.blk
  have c0 := hb.cell 0
  have HB := Lib.hid hb
  simp only [List.getElem?_toArray, List.getElem?_cons_succ, List.getElem?_cons_zero] at c0
  obtain ⟨A, c, rfl, -⟩ := hv
  obtain ⟨m, hm⟩ : ∃ m, m = l.length := ⟨_, rfl⟩
  rw [← hm] at HC hl ⊢
  have HM := Lib.hid hm
  clear hb hr h hm
  cases hs : (n == [42])
  case true =>
    have HX := Lib.hid (show setS x n l = ⟨x.vars, l⟩ by unfold setS star; rw [if_pos (by simpa using hs)])
    clear c0
    go_enter Try.func16, Try.ntmps16
    go_wp2_with fail
    refine (HC.out w (Below.refl _ _)).mono ?_
    rintro e w1 ⟨u, rfl, h1, hb1⟩
    have HS := Lib.hid ((HI.out.below hb1).setArgs (h1.ot HI.out.lo))
    have q1 := (HB.out.below hb1).cell 1
    have f1 := (HB.out.below hb1).frozen 1
    simp only [List.getElem?_toArray, List.getElem?_cons_succ, List.getElem?_cons_zero] at q1
    obtain ⟨A1, c1', rfl, -⟩ := h1
    have HB1 := Lib.hid hb1
    clear hb1
    go_wp2_with fail
    go_returns
    exact ⟨rfl, by rw [HX.out]; exact HS.out.1.mono (Nat.le_succ N), (ButS.of HB1.out).trans HS.out.2⟩
  case false =>
    have HX := Lib.hid (show setS x n l = ⟨putA n l x.vars, x.args⟩ by unfold setS star; rw [if_neg (by simpa using hs)])
    go_enter Try.func16, Try.ntmps16
    go_upto_region 2 with (fail)
    apply wp_region_relA 7 [eqT _, eqT _, eqT _, eqT _, eqT _, eqT _, txT w.heap.size l] (by kernel_rfl) (by kernel_rfl) (by kernel_rfl) rfl
    focus
      refine ⟨?_, ?_⟩
      focus
        unfold opGoal
        rw [if_pos (by kernel_rfl)]
        intro x hb hd K hk
        clear hd
        go_wp2_with fail
        exact hk _ _ rfl trivial (Below.refl _ _)
      rintro _ rfl
      simp only [Act.put, List.setIfInBounds_toArray, List.set_cons_succ, List.set_cons_zero]
      refine ⟨?_, ?_⟩
      focus
        unfold opGoal
        rw [if_pos (by kernel_rfl)]
        intro x hb hd K hk
        clear hd
        go_wp2_with fail
        exact hk _ _ rfl trivial (Below.refl _ _)
      rintro _ rfl
      simp only [Act.put, List.setIfInBounds_toArray, List.set_cons_succ, List.set_cons_zero]
      refine ⟨?_, ?_⟩
      focus
        unfold opGoal
        rw [if_pos (by kernel_rfl)]
        intro x hb hd K hk
        clear hd
        go_wp2_with fail
        exact hk _ _ rfl trivial (Below.refl _ _)
      rintro _ rfl
      simp only [Act.put, List.setIfInBounds_toArray, List.set_cons_succ, List.set_cons_zero]
      refine ⟨?_, ?_⟩
      focus
        unfold opGoal
        rw [if_pos (by kernel_rfl)]
        intro x hb hd K hk
        clear hd
        have l0 := cell_keep hb c0
        go_wp2_with fail
        exact hk _ _ rfl trivial (Below.refl _ _)
      rintro _ rfl
      simp only [Act.put, List.setIfInBounds_toArray, List.set_cons_succ, List.set_cons_zero]
      refine ⟨?_, ?_⟩
      focus
        unfold opGoal
        rw [if_pos (by kernel_rfl)]
        intro x hb hd K hk
        clear hd
        go_wp2_with fail
        exact hk _ _ rfl trivial (Below.refl _ _)
      rintro _ rfl
      simp only [Act.put, List.setIfInBounds_toArray, List.set_cons_succ, List.set_cons_zero]
      refine ⟨?_, ?_⟩
      focus
        unfold opGoal
        rw [if_pos (by kernel_rfl)]
        intro x hb hd K hk
        clear hd
        go_wp2_with fail
        exact hk _ _ rfl trivial (Below.refl _ _)
      rintro _ rfl
      simp only [Act.put, List.setIfInBounds_toArray, List.set_cons_succ, List.set_cons_zero]
      refine ⟨?_, ?_⟩
      focus
        unfold opGoal
        rw [if_pos (by kernel_rfl)]
        intro x hb hd K hk
        clear hd
        go_wp2_with fail
        refine (HC.out x (by assumption)).mono ?_
        rintro e9 w9 ⟨u, rfl, h1, hb9⟩
        exact hk _ _ (by obtain ⟨A1, c1, rfl, _⟩ := h1; exact ⟨_, _, _, rfl⟩) (h1.mono hb.size) hb9
      rintro _ ⟨A7, n7, c7, rfl⟩
      simp only [Act.put, List.setIfInBounds_toArray, List.set_cons_succ, List.set_cons_zero]
      intro y hby hf
      simp only [List.drop_succ_cons, List.drop_zero]
      have hT : OwnT y w.heap.size (.slice A7 n7 c7) l := hf 6 _ _ rfl rfl
      clear hf
      obtain ⟨wy, hput, hI, hbz⟩ := (HI.out.below hby).put Try.underlying44 (by unfold maxLen; omega) (n := n) hn (hT.ot HI.out.lo)
      have HI2 := Lib.hid hI
      have HBZ := Lib.hid ((ButS.of hby).trans hbz)
      clear hI hbz hT hby HC
      go_wp2_with fail
      go_returns
      exact ⟨rfl, by rw [HX.out]; exact HI2.out, HBZ.out⟩
theorem set_any (st vb fb N : Nat) (x : Sto) (F : List (Txt × List Nd)) (n : Txt) (v : Value) (l : List Txt) (w : World) (h : StI X w st vb fb N x F) (hN : N ≤ 1000000) (hn : n.length ≤ maxLen) (hv : TxR w v l) (hl : l.length ≤ 1000000) :
    Calls Try.prog 16 #[.pointer (some ⟨st, 0, none⟩), .string ⟨n.toArray⟩, v] w (SetRet X st vb fb (N + 1) (setS x n l) F w) :=
  set_any2 st vb fb N x F n v l w h hN hn hv (Nat.le_trans hl (by decide))
end Go.Proofs.Ytcnkljbckpkgcaa
