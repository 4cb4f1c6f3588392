/- The walk over the document's own Number, up to a million. No other condition. -/
import Derived.Test.YtlhpflilpdceiaaGreatDoorJL
import Derived.Test.YtlhpflilpdceiaaGreatDoorJI
import Derived.Test.YtlhpflilpdceiaaGreatDoorJD
import Derived.Lib.ItoaNum
import Derived.Test.YtlhpflilpdceiaaGreatDoorJN
import Derived.Lib.AppendIntMem
import Derived.Lib.LaidTab
set_option linter.unusedVariables false
set_option linter.unusedSimpArgs false
namespace Go.Proofs.YtlhpflilpdceiaaGreatDoor
open Go.RowKit

theorem dec_less {n : Nat} (h : n < 10) : Lib.decDigits n = [UInt8.ofNat (48 + n)] := by rw [Lib.decDigits, dif_pos h]
theorem dec_more {n : Nat} (h : ¬ n < 10) : Lib.decDigits n = Lib.decDigits (n / 10) ++ [UInt8.ofNat (48 + n % 10)] := by
  conv => lhs; rw [Lib.decDigits, dif_neg h]
theorem dec_len (n : Nat) : n ≤ 1000000 → (Lib.decDigits n).length ≤ 1000000 := fun h => by
  have key : ∀ n : Nat, (Lib.decDigits n).length ≤ n + 1 := fun n => by
    induction n using Nat.strongRecOn with
    | ind n ih =>
      by_cases h10 : n < 10
      · rw [dec_less h10]; simp
      · rw [dec_more h10, List.length_append, List.length_singleton]
        have := ih (n / 10) (by omega)
        omega
  by_cases h10 : n < 10
  · rw [dec_less h10]; show 1 ≤ 1000000; decide
  · rw [dec_more h10, List.length_append, List.length_singleton]
    have := key (n / 10)
    omega
theorem digit_cell (k : Nat) (h : k < 10) (w : World) : (w.alloc (.cells #[.int .u8 (48 + (k : Int))] 5)).ownsRow w.heap.size 5 1 (.slice (some ⟨w.heap.size, 0, none⟩) 1 1) 1 ([UInt8.ofNat (48 + k)].flatMap byc) := by
  have h1 : (UInt8.ofNat (48 + k)).toNat = 48 + k := by
    rw [UInt8.toNat_ofNat']
    omega
  have h2 : ([UInt8.ofNat (48 + k)].flatMap byc) = [.int .u8 (48 + (k : Int))] := by
    simp only [List.flatMap_cons, List.flatMap_nil, List.append_nil, byc, h1]
    rfl
  rw [h2]
  exact World.ownsRow_lit w #[.int .u8 (48 + (k : Int))] 1 (Nat.le_refl _) (by decide) rfl
def rowB (B : Nat) (d : UInt8) : TT := ⟨fun v => ∃ g, v = .slice (some ⟨g, 0, none⟩) 1 1, ⟨_, 0, rfl⟩, fun v x => x.ownsRow B 5 1 v 1 ([d].flatMap byc), fun _ _ _ h hb => own_below h hb⟩
set_option maxRecDepth 100000 in
theorem number_any (n : Nat) (hn : n ≤ 1000000) : ∀ w, Calls Tryz.prog 22 #[.int .i64 n] w (Ret w (.string ⟨(Lib.decDigits n).toArray⟩)) := by
  induction n using Nat.strongRecOn with
  | ind n ih =>
    intro w
    by_cases h10 : n < 10
    · have HD := Lib.hid (dec_less h10)
      have hcv := conv_any (digit_cell n h10 w) rfl
      have hn0 : ¬ ((n : Int) < 0) := by omega
      rw [HD.out]
      generalize hd : UInt8.ofNat (48 + n) = d at *
      clear hd ih
      go_enter Tryz.func22, Tryz.ntmps22
      go_wp2_with fail
      go_ret
      exact ⟨rfl, below1 w _⟩
    · have HD := Lib.hid (dec_more h10)
      have C1 := Lib.hid (ih (n / 10) (by omega) (by omega))
      have hpl : (Lib.decDigits (n / 10)).length ≤ 1000000 := dec_len (n / 10) (by omega)
      rw [HD.out]
      have hk10 : n % 10 < 10 := Nat.mod_lt _ (by decide)
      have HC := Lib.hid (fun (W : World) (g : Nat) (h : W.ownsRow w.heap.size 5 1 (.slice (some ⟨g, 0, none⟩) 1 1) 1 ([UInt8.ofNat (48 + n % 10)].flatMap byc)) => conv_any h rfl)
      have HG := Lib.hid (fun W => digit_cell (n % 10) hk10 W)
      have hn1 : (n : Int) / 10 = ((n / 10 : Nat) : Int) := by omega
      have hn2 : (n : Int) % 10 = ((n % 10 : Nat) : Int) := by omega
      generalize Lib.decDigits (n / 10) = p at *
      generalize UInt8.ofNat (48 + n % 10) = d at *
      generalize n % 10 = k at *
      generalize n / 10 = j at *
      clear ih
      go_enter Tryz.func22, Tryz.ntmps22
      go_upto_region 7 with (fail)
      apply wp_region_rel [eqT _, eqT (.int .i64 (j : Int)), eqT (.string ⟨p.toArray⟩), eqT _, eqT (.int .i64 (k : Int)), eqT _, eqT (.int .u8 (48 + (k : Int))), rowB w.heap.size d, eqT (.string ⟨[d].toArray⟩), eqT (.string ⟨(p ++ [d]).toArray⟩), eqT _] (by kernel_rfl) (by kernel_rfl) rfl
      focus
        refine ⟨?_, ?_⟩
        focus
          unfold opGoal
          rw [if_pos (by kernel_rfl)]
          intro x hb hd K hk
          clear hd
          go_wp2_with fail
          exact hk _ _ rfl trivial (Below.refl _ _)
        rintro _ rfl
        simp only [Act.put, List.setIfInBounds_toArray, List.set_cons_succ, List.set_cons_zero]
        refine ⟨?_, ?_⟩
        focus
          unfold opGoal
          rw [if_pos (by kernel_rfl)]
          intro x hb hd K hk
          clear hd
          go_wp2_with fail
          exact hk _ _ (congrArg (Value.int .i64) (by omega)) trivial (Below.refl _ _)
        rintro _ rfl
        simp only [Act.put, List.setIfInBounds_toArray, List.set_cons_succ, List.set_cons_zero]
        refine ⟨?_, ?_⟩
        focus
          unfold opGoal
          rw [if_pos (by kernel_rfl)]
          intro x hb hd K hk
          clear hd
          go_wp2_with fail
          refine (Hid.out C1 x).mono ?_
          rintro e x' ⟨rfl, hb'⟩
          exact hk _ _ rfl trivial hb'
        rintro _ rfl
        simp only [Act.put, List.setIfInBounds_toArray, List.set_cons_succ, List.set_cons_zero]
        refine ⟨?_, ?_⟩
        focus
          unfold opGoal
          rw [if_pos (by kernel_rfl)]
          intro x hb hd K hk
          clear hd
          go_wp2_with fail
          exact hk _ _ rfl trivial (Below.refl _ _)
        rintro _ rfl
        simp only [Act.put, List.setIfInBounds_toArray, List.set_cons_succ, List.set_cons_zero]
        refine ⟨?_, ?_⟩
        focus
          unfold opGoal
          rw [if_pos (by kernel_rfl)]
          intro x hb hd K hk
          clear hd
          go_wp2_with fail
          exact hk _ _ (congrArg (Value.int .i64) (by omega)) trivial (Below.refl _ _)
        rintro _ rfl
        simp only [Act.put, List.setIfInBounds_toArray, List.set_cons_succ, List.set_cons_zero]
        refine ⟨?_, ?_⟩
        focus
          unfold opGoal
          rw [if_pos (by kernel_rfl)]
          intro x hb hd K hk
          clear hd
          go_wp2_with fail
          exact hk _ _ rfl trivial (Below.refl _ _)
        rintro _ rfl
        simp only [Act.put, List.setIfInBounds_toArray, List.set_cons_succ, List.set_cons_zero]
        refine ⟨?_, ?_⟩
        focus
          unfold opGoal
          rw [if_pos (by kernel_rfl)]
          intro x hb hd K hk
          clear hd
          go_wp2_with fail
          exact hk _ _ rfl trivial (Below.refl _ _)
        rintro _ rfl
        simp only [Act.put, List.setIfInBounds_toArray, List.set_cons_succ, List.set_cons_zero]
        refine ⟨?_, ?_⟩
        focus
          unfold opGoal
          rw [if_pos (by kernel_rfl)]
          intro x hb hd K hk
          clear hd
          go_wp2_with fail
          exact hk _ _ ⟨_, rfl⟩ (own_mono (HG.out x) hb.size) ((Below.refl _ _).alloc (Nat.le_refl _) _)
        rintro _ ⟨g25, rfl⟩
        simp only [Act.put, List.setIfInBounds_toArray, List.set_cons_succ, List.set_cons_zero]
        refine ⟨?_, ?_⟩
        focus
          unfold opGoal
          rw [if_pos (by kernel_rfl)]
          intro x hb hd K hk
          have h25 := hd _ (List.mem_cons_self ..) rfl _ _ rfl rfl
          have hcv := HC.out x g25 h25
          clear hd h25
          go_wp2_with fail
          exact hk _ _ rfl trivial (Below.refl _ _)
        rintro _ rfl
        simp only [Act.put, List.setIfInBounds_toArray, List.set_cons_succ, List.set_cons_zero]
        refine ⟨?_, ?_⟩
        focus
          unfold opGoal
          rw [if_pos (by kernel_rfl)]
          intro x hb hd K hk
          clear hd
          go_wp2_with fail
          exact hk _ _ (congrArg Value.string (ba_app _ _)) trivial (Below.refl _ _)
        rintro _ rfl
        simp only [Act.put, List.setIfInBounds_toArray, List.set_cons_succ, List.set_cons_zero]
        refine ⟨?_, ?_⟩
        focus
          unfold opGoal
          rw [if_pos (by kernel_rfl)]
          intro x hb hd K hk
          clear hd
          go_wp2_with fail
          exact hk _ _ rfl trivial (Below.refl _ _)
        rintro _ rfl
        simp only [Act.put, List.setIfInBounds_toArray, List.set_cons_succ, List.set_cons_zero]
        intro x hbq hf
        clear hf
        go_wp2_with fail
        go_ret
        exact ⟨rfl, hbq⟩
end Go.Proofs.YtlhpflilpdceiaaGreatDoor

/- The walks over lists.Count, patoissee.Is at the error of a list that is too big, and the law's own same. What the package-level errors and the library's table hold are hypotheses. -/
set_option linter.unusedVariables false
set_option linter.unusedSimpArgs false
namespace Go.Proofs.YtlhpflilpdceiaaGreatDoor
open Go.RowKit

theorem tab_below {P : Program} {w w' : World} {nm : String} {k : IntKind} {zs : List Int} (h : Lib.TabIs P w nm k zs) (hb : Below w.heap.size w w') : Lib.TabIs P w' nm k zs := by
  unfold Lib.TabIs World.var? at *
  cases hg : P.globalNamed nm with
  | none => simp [hg] at h
  | some g =>
    simp only [hg] at h ⊢
    simp only [Option.bind_some] at h ⊢
    cases hx : w.heap[g]? with
    | none => rw [hx] at h; cases h
    | some o =>
      rw [hb.block g (Array.getElem?_eq_some_iff.1 hx).1]
      exact h
def Pow (w : World) : Prop := Lib.TabIs Tryz.prog w "internal/strconv.uint64pow10" .u64 Lib.pow10Tab
theorem numberT_any (n : Nat) (hn : n ≤ 1000000) (w : World) (hp : Pow w) : Calls Tryz.prog 50 #[.int .i64 n] w (Ret w (.string ⟨(Lib.decDigits n).toArray⟩)) := by
  have HC := Lib.hid (Tryz.strconv_Itoa n (by omega) (by omega) w hp)
  have hz : Lib.itoa (n : Int) = Lib.decDigits n := by
    unfold Lib.itoa
    rw [if_neg (by omega)]
    rfl
  rw [hz] at HC
  generalize Lib.decDigits n = d at *
  clear hz hp
  go_enter Tryz.func50, Tryz.ntmps50
  go_wp2_with fail
  refine HC.out.mono ?_
  rintro e w1 ⟨rfl, k, os, hw⟩
  have hb : Below w.heap.size w w1 := by rw [hw]; exact Lib.below_grow w.heap.size w (Nat.le_refl _) k os
  clear hw
  go_wp2_with fail
  go_ret
  exact ⟨rfl, hb⟩
theorem countT_any (v : Value) (L : List (List UInt8)) (w : World) (hv : SlS w v L) (hL : L.length ≤ 1000000) (hp : Pow w) : Calls Tryz.prog 21 #[v] w (OwnRet [Lib.decDigits L.length] w) := by
  obtain ⟨A, c, rfl, hrd, _⟩ := hv
  have HC := Lib.hid (numberT_any L.length hL w hp)
  generalize Lib.decDigits L.length = d at *
  generalize L.length = m at *
  clear hrd hp
  go_enter Tryz.func21, Tryz.ntmps21
  go_wp2_with fail
  refine HC.out.mono ?_
  rintro e w' ⟨rfl, hb⟩
  go_wp2_with fail
  go_ret
  exact ⟨_, rfl, World.ownsRow_lit w' #[.string ⟨d.toArray⟩] 1 hb.size (by decide) rfl, hb.alloc hb.size _⟩
theorem isbig_any (L : List Addr) (a : Addr) (w : World) (h : SenW w L) (ha : L[13]? = some a) : Calls Tryz.prog 35 #[bigV a, .int .i64 114] w (Ret w (.bool true)) := by
  have HB := Lib.hid (bare_any 114 w)
  have HS := Lib.hid (fun W (hb : Below w.heap.size w W) => seesame_any L W (bigV a) (bareV 114) 114 114 [] [] (h.below hb) (.inr (.inl ⟨13, a, ha, rfl, rfl, rfl⟩)) (bare_flt W 114) (by decide))
  clear h
  unfold bigV bareV at *
  go_enter Tryz.func35, Tryz.ntmps35
  go_wp2_with fail
  refine HB.out.mono ?_
  rintro e w1 ⟨rfl, hb⟩
  go_wp2_with fail
  refine (HS.out w1 hb).mono ?_
  rintro e w2 ⟨rfl, hb2⟩
  go_wp2_with fail
  go_ret
  exact ⟨rfl, hb.trans (hb2.mono hb.size)⟩
theorem SlS.len' {w : World} {A : Option Addr} {n c : Nat} {l : List (List UInt8)} (h : SlS w (.slice A n c) l) : n = l.length := by
  obtain ⟨A', c', he, _⟩ := h
  injection he
theorem lsame_any (R : Option (List (List UInt8))) (L : List Addr) (aB : Addr) (A B : Option Addr) (n m c d : Nat) (w : World) (h : SenW w L) (ha : L[13]? = some aB) (h1 : SlS w (.slice A n c) (R.getD [])) (h2 : SlS w (.slice B m d) (R.getD [])) (hl : (R.getD []).length ≤ 1000000) :
    Calls Tryz.prog 10 #[.slice A n c, errV aB R, .slice B m d, .bool R.isSome] w (Ret w (.bool true)) := by
  cases R with
  | none =>
    have HI := Lib.hid (isbig_any L aB w h ha)
    have hn : n = 0 := h1.len'
    subst hn
    simp only [errV, Option.isSome_none]
    clear h ha h1 h2 hl
    unfold bigV at *
    go_enter Tryz.func10, Tryz.ntmps10
    go_wp2_with fail
    refine HI.out.mono ?_
    rintro e w1 ⟨rfl, hb⟩
    go_wp2_with fail
    go_ret
    exact ⟨rfl, hb⟩
  | some l =>
    have K := Lib.hid (sameTexts_v (.slice A n c) (.slice B m d) l l w h1 h2 hl hl)
    rw [decide_eq_true rfl] at K
    simp only [errV, Option.isSome_some]
    clear h ha h1 h2 hl
    go_enter Tryz.func10, Tryz.ntmps10
    go_wp2_with fail
    refine K.out.mono ?_
    rintro e w1 ⟨rfl, hb⟩
    go_wp2_with fail
    go_ret
    exact ⟨rfl, hb⟩
end Go.Proofs.YtlhpflilpdceiaaGreatDoor
