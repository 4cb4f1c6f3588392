/- The walk over patoisref.Texts; append onto one of several rows of the call's own. Bounds on the lengths. -/
import Derived.Test.YtlhpflilpdceiaaGreatDoorListW9
import Derived.Maps.AppendAt
import Derived.Outline
import Derived.Shelf.Strconv.Itoa0
set_option linter.unusedVariables false
set_option linter.unusedSimpArgs false
namespace Go.Proofs.YtlhpflilpdceiaaGreatDoor
open Go.RowKit

set_option maxHeartbeats 2000000 in
theorem texts_any (v : Value) (L : List (List UInt8)) (w : World) (hv : SlS w v L) (hL : L.length ≤ 1000000) : Calls Tryz.prog 33 #[v] w (OwnRet L w) := by
  obtain ⟨A, cp, rfl, hrd, _⟩ := hv
  obtain ⟨i0, hi, hz0, hz1, hz2⟩ := info_parts infoStr
  obtain ⟨m, hm⟩ : ∃ m, m = L.length := ⟨_, rfl⟩
  rw [← hm] at hL ⊢
  have HM := Lib.hid hm
  clear hm
  go_enter Tryz.func33, Tryz.ntmps33
  go_wp2_with (at_make; refine wpList_make_own w rfl _ _ _ rfl w.heap.size _ i0 _ 1 Tryz.underlying23 hi hz0 hz1 .i64 .i64 m m rfl rfl rfl (by rw [hz2]; omega) (by unfold maxLen; omega) (Nat.le_refl _) ?_; intro w1 ho1 hg1; have hb1 := (Below.refl w.heap.size w).grown hg1 (Nat.le_refl _) (fun k h => by cases h))
  go_loopw [3, 4] (fun v i wr => ∃ (k : Nat) (A' : Option Addr) (c' : Nat), k ≤ m ∧ i = .int .i64 k ∧ v = .slice A' k c' ∧ wr.ownsRow w.heap.size 9 1 (.slice A' k c') k ((L.take k).flatMap strc) ∧ Below w.heap.size w wr) (fun _ i _ => m - (intOf i).toNat)
  case atStart => exact ⟨0, _, m, Nat.zero_le _, rfl, rfl, ho1, hb1⟩
  case round =>
    obtain ⟨k, A', c', hk, rfl, rfl, hown, hb⟩ := hrel
    by_cases hlt : k < m
    · have hlt' : k < L.length := by rw [← HM.out]; exact hlt
      obtain ⟨b, o, rfl⟩ := hrd.ats hlt'
      have h0 := cell_keep hb (hrd.strs hlt')
      have HS := Lib.hid (show (L.take (k + 1)).flatMap strc = (L.take k).flatMap strc ++ strc L[k] by
        rw [List.take_succ_eq_append_getElem hlt', List.flatMap_append]; simp)
      generalize L[k] = x at *
      clear hlt' ho1
      go_wp2_with (at_builtin; refine wpList_push rfl _ _ _ rfl Tryz.underlying23 hi hz0 hz1 hz2 rfl (by decide) hown rfl rfl rfl (by simp [Value.oneCell']) (by omega) (by decide) hb.size ?_; intro A2 c2 w2 hown2 hb2 hoo2)
      go_roundw
      case rel => exact ⟨k + 1, A2, c2, by omega, by go_num, rfl, by rw [HS.out]; exact hown2, hb.trans hb2⟩
      case measure => simp [intOf]; omega
    · obtain rfl : k = m := by omega
      have HS := Lib.hid (show L.take k = L by rw [HM.out, List.take_length])
      go_wp2_with fail
      go_ret
      exact ⟨_, rfl, by unfold OwnS; rw [HS.out] at hown; rw [← HM.out]; exact hown, hb⟩

section
variable {P : Program} {ops : Array Oper} {Q : Exit → Act → World → Prop} {a : Act} {w : World} {rest : List Oper} {o : Oper}
/-- append of one element, with the place where the new row lies. -/
theorem wpList_push_at (hgd : o.guard = none) (s x : Operand) (t : TypeId) (ho : o.op = .call { callee := .builtin .append, args := #[s, x], argTypes := #[t, t] })
    {e : TypeId} {i : TypeInfo} {z : Value} {sz bytes : Nat} (ht : P.underlying t = some (.slice e)) (hi : P.info? e = some i) (hz : i.zero = some z) (hsize : i.size = sz) (hby : i.bytes = bytes) (hzs : z.cells.size = sz) (hsz : 0 < sz)
    {base n : Nat} {v : Value} {xs : List Value} {cs : Array Value} (hown : w.ownsRow base e sz v n xs) (hs : a.eval s = v) (hx : a.eval x = .slice (some ⟨w.heap.size, 0, none⟩) 1 1) (hcs : cs.size = sz) (h1 : ∀ u ∈ cs.toList, u.oneCell' = true)
    (hbytes : (n + 1) * bytes ≤ 140737488355328) (hb0 : 0 < bytes) (hbase : base ≤ w.heap.size)
    (h : ∀ A' c' w', w'.ownsRow base e sz (.slice A' (n + 1) c') (n + 1) (xs ++ cs.toList) → w.grownBy w' v.ownBlock → (∀ g, (Value.slice A' (n + 1) c').ownBlock = some g → v.ownBlock = some g ∨ w.heap.size ≤ g) → wpList P ops Q rest (a.put o.dst (.slice A' (n + 1) c')) w') :
    wpList P ops Q (o :: rest) a (w.alloc (.cells cs e)) := by
  refine wpList_append_own_at _ hgd s x t ho base e i z sz bytes ht hi hz hsize hby hzs hsz v n xs hs (hown.alloc _) ⟨w.heap.size, 0, none⟩ 1 1 cs.toList hx (by simp [hcs]) ?_ h1 ?_ hbytes (by simp; omega) ?_
  · intro j u hu
    rw [Addr.add_lit, Nat.zero_add, cell_of_row _ _ j cs e (0, 0) (heap_alloc_new w _)]
    simpa using hu
  · have := Nat.le_mul_of_pos_right (n + 1) hb0
    simp only [maxLen]; omega
  · intro v' w' hown' hgrow _ hat
    obtain ⟨A', c', rfl, _⟩ := own_form hown'
    refine h A' c' w' hown' ((World.grownBy_alloc w _ _).trans hgrow) fun g hg => ?_
    rcases hat with hat | hat
    · exact .inl (hat.symm.trans hg)
    · rw [hg] at hat
      injection hat with hat
      right
      rw [hat, alloc_size]
      omega
end
/-- A row of texts of the call's own, whatever is in it. -/
def Wr (w : World) (B : Nat) (v : Value) : Prop := ∃ A n c xs, v = .slice A n c ∧ n ≤ 1000000 ∧ w.ownsRow B 9 1 v n xs
theorem Wr.below {w w' : World} {B : Nat} {v : Value} (h : Wr w B v) (hb : Below w.heap.size w w') : Wr w' B v :=
  let ⟨A, n, c, xs, h1, h2, h3⟩ := h
  ⟨A, n, c, xs, h1, h2, own_below h3 hb⟩
/-- .. stays one where a cell of any row is stored. -/
theorem Wr.stored {w : World} {B g j : Nat} {u v : Value} {n cap : Nat} {xs : List Value} (h : Wr w B v) (hg : w.ownsRow B 9 1 (.slice (some ⟨g, 0, none⟩) n cap) n xs) : Wr (w.setCell ⟨g, j, none⟩ u) B v := by
  obtain ⟨A, m, c, ys, rfl, hm, ho⟩ := h
  by_cases hA : A = some ⟨g, 0, none⟩
  · subst hA
    exact ⟨_, m, c, _, rfl, hm, (ho.stored j u).1⟩
  · refine ⟨A, m, c, ys, rfl, hm, ho.kept (hg.stored j u).2 ?_⟩
    rcases ho.2 with ⟨he, _⟩ | ⟨g', cap', cur, he, _⟩
    · injection he with he1
      subst he1
      exact .inl rfl
    · injection he with he1
      subst he1
      refine .inr fun h => hA ?_
      simp only [Value.ownBlock, Option.some.injEq] at h
      rw [h]
theorem Wr.of {w : World} {B B' : Nat} {A : Option Addr} {n c m : Nat} {xs : List Value} (h : w.ownsRow B' 9 1 (.slice A n c) m xs) (hn : n = m) (hB : B ≤ B') (hm : m ≤ 1000000) : Wr w B (.slice A n c) := by
  subst hn
  exact ⟨A, n, c, xs, rfl, hm, own_mono h hB⟩
end Go.Proofs.YtlhpflilpdceiaaGreatDoor

/- The walks over the document's own Trim, strings.TrimRight of newlines, lists.Trim. A bound on the length. -/
set_option linter.unusedVariables false
set_option linter.unusedSimpArgs false
namespace Go.Proofs.YtlhpflilpdceiaaGreatDoor
open Go.RowKit

/-- A text without the newlines at its end. -/
def trimN (l : List UInt8) : List UInt8 := (l.reverse.dropWhile (fun c => decide (c = 10))).reverse
theorem trimN_nl {t : List UInt8} {k : Nat} (hk : k < t.length) (hl : k + 1 = t.length) (h : t[k] = 10) : trimN (t.take k) = trimN t := by
  have h1 : t = t.take k ++ [10] := by
    conv => lhs; rw [← List.take_length (l := t), ← hl, List.take_succ_eq_append_getElem hk, h]
  conv => rhs; rw [h1]
  unfold trimN
  rw [List.reverse_append]
  simp
theorem trimN_end {t : List UInt8} {k : Nat} (hk : k < t.length) (hl : k + 1 = t.length) (h : t[k] ≠ 10) : trimN t = t := by
  have h1 : t = t.take k ++ [t[k]] := by
    conv => lhs; rw [← List.take_length (l := t), ← hl, List.take_succ_eq_append_getElem hk]
  generalize t[k] = c at *
  generalize t.take k = p at *
  subst h1
  unfold trimN
  rw [List.reverse_append]
  simp [h]
theorem sub_take (l : List UInt8) (k : Nat) : (⟨l.toArray⟩ : ByteArray).extract 0 k = ⟨(l.take k).toArray⟩ := by rw [extract_cell]; simp
set_option maxHeartbeats 2000000 in
theorem rtrim_any (s : List UInt8) (w : World) (hs : s.length ≤ 1000000) : Calls Tryz.prog 25 #[.string ⟨s.toArray⟩] w fun e w' => e = .returned (.string ⟨(trimN s).toArray⟩) ∧ w' = w := by
  obtain ⟨T, hT⟩ : ∃ T, T = trimN s := ⟨_, rfl⟩
  rw [← hT]
  have HT := Lib.hid hT
  clear hT
  go_enter Tryz.func25, Tryz.ntmps25
  go_wp2_with fail
  go_loopw [0] (fun v wr => ∃ t : List UInt8, v = .string ⟨t.toArray⟩ ∧ t.length ≤ 1000000 ∧ w = wr ∧ Hid (T = trimN t)) (fun v _ => match v with | .string b => b.size | _ => 0)
  case atStart => exact ⟨s, rfl, hs, rfl, HT⟩
  case round =>
    obtain ⟨t, rfl, hl, hwr, H⟩ := hrel
    subst hwr
    obtain ⟨m, hm⟩ : ∃ m, m = t.length := ⟨_, rfl⟩
    have HM := Lib.hid hm
    have hsz : (⟨t.toArray⟩ : ByteArray).size = m := by simp [ByteArray.size, hm]
    rw [← hm] at hl
    by_cases h0 : m = 0
    · have HF := Lib.hid (show T = t by
        have ht : t = [] := List.eq_nil_of_length_eq_zero (by omega)
        rw [H.out, ht]; rfl)
      subst h0
      clear hm
      go_wp2_with fail
      go_ret
      rw [HF.out]
      exact ⟨rfl, rfl⟩
    · obtain ⟨k, rfl⟩ : ∃ k, m = k + 1 := ⟨m - 1, by omega⟩
      have hkL : k < t.length := by omega
      have HQ := Lib.hid (show (t[k] = 10 → trimN (t.take k) = trimN t) ∧ (t[k] ≠ 10 → trimN t = t) from ⟨trimN_nl hkL (by omega), trimN_end hkL (by omega)⟩)
      have HX := Lib.hid (sub_take t k)
      have HTL := Lib.hid (show (t.take k).length = k by rw [List.length_take]; omega)
      have hbi : ∀ h, (⟨t.toArray⟩ : ByteArray)[k]'h = t[k] := fun h => rfl
      by_cases hc : t[k] = 10
      · have HN := Lib.hid (show T = trimN (t.take k) by rw [H.out, HQ.out.1 hc])
        have hcb : ((t[k].toNat : Int) == 10) = true := by rw [hc]; rfl
        generalize t.take k = u at *
        clear HQ hc hm H
        go_wp2_with fail
        go_roundw
        case rel => exact ⟨u, congrArg _ HX.out, by rw [HTL.out]; omega, trivial, HN⟩
        case measure =>
          rw [HX.out]
          simp only [ByteArray.size, List.size_toArray]
          rw [HTL.out]
          exact hkL
      · have HN := Lib.hid (show T = t by rw [H.out, HQ.out.2 hc])
        have hcb : ((t[k].toNat : Int) == 10) = false := by
          rw [beq_eq_false_iff_ne]
          intro h
          have h2 : t[k].toNat = (10 : UInt8).toNat := by
            show _ = 10
            omega
          exact hc (UInt8.toNat_inj.1 h2)
        clear HQ hc hm H HX HTL
        go_wp2_with fail
        go_ret
        rw [HN.out]
        exact ⟨rfl, rfl⟩
set_option maxHeartbeats 2000000 in
theorem trimByte_any (s : List UInt8) (w : World) (hs : s.length ≤ 1000000) : Calls Tryz.prog 80 #[.string ⟨s.toArray⟩, .int .u8 10] w fun e w' => e = .returned (.string ⟨(trimN s).toArray⟩) ∧ w' = w := by
  obtain ⟨T, hT⟩ : ∃ T, T = trimN s := ⟨_, rfl⟩
  rw [← hT]
  have HT := Lib.hid hT
  clear hT
  go_enter Tryz.func80, Tryz.ntmps80
  go_wp2_with fail
  go_loopw [0] (fun v wr => ∃ t : List UInt8, v = .string ⟨t.toArray⟩ ∧ t.length ≤ 1000000 ∧ w = wr ∧ Hid (T = trimN t)) (fun v _ => match v with | .string b => b.size | _ => 0)
  case atStart => exact ⟨s, rfl, hs, rfl, HT⟩
  case round =>
    obtain ⟨t, rfl, hl, hwr, H⟩ := hrel
    subst hwr
    obtain ⟨m, hm⟩ : ∃ m, m = t.length := ⟨_, rfl⟩
    have HM := Lib.hid hm
    have hsz : (⟨t.toArray⟩ : ByteArray).size = m := by simp [ByteArray.size, hm]
    rw [← hm] at hl
    by_cases h0 : m = 0
    · have HF := Lib.hid (show T = t by
        have ht : t = [] := List.eq_nil_of_length_eq_zero (by omega)
        rw [H.out, ht]; rfl)
      subst h0
      clear hm
      go_wp2_with fail
      go_ret
      rw [HF.out]
      exact ⟨rfl, rfl⟩
    · obtain ⟨k, rfl⟩ : ∃ k, m = k + 1 := ⟨m - 1, by omega⟩
      have hkL : k < t.length := by omega
      have HQ := Lib.hid (show (t[k] = 10 → trimN (t.take k) = trimN t) ∧ (t[k] ≠ 10 → trimN t = t) from ⟨trimN_nl hkL (by omega), trimN_end hkL (by omega)⟩)
      have HX := Lib.hid (sub_take t k)
      have HTL := Lib.hid (show (t.take k).length = k by rw [List.length_take]; omega)
      have hbi : ∀ h, (⟨t.toArray⟩ : ByteArray)[k]'h = t[k] := fun h => rfl
      by_cases hc : t[k] = 10
      · have HN := Lib.hid (show T = trimN (t.take k) by rw [H.out, HQ.out.1 hc])
        have hcb : ((t[k].toNat : Int) == 10) = true := by rw [hc]; rfl
        generalize t.take k = u at *
        clear HQ hc hm H
        go_wp2_with fail
        go_roundw
        case rel => exact ⟨u, congrArg _ HX.out, by rw [HTL.out]; omega, trivial, HN⟩
        case measure =>
          rw [HX.out]
          simp only [ByteArray.size, List.size_toArray]
          rw [HTL.out]
          exact hkL
      · have HN := Lib.hid (show T = t by rw [H.out, HQ.out.2 hc])
        have hcb : ((t[k].toNat : Int) == 10) = false := by
          rw [beq_eq_false_iff_ne]
          intro h
          have h2 : t[k].toNat = (10 : UInt8).toNat := by
            show _ = 10
            omega
          exact hc (UInt8.toNat_inj.1 h2)
        clear HQ hc hm H HX HTL
        go_wp2_with fail
        go_ret
        rw [HN.out]
        exact ⟨rfl, rfl⟩
set_option maxRecDepth 100000 in
theorem trimRight_any (s : List UInt8) (w : World) (hs : s.length ≤ 1000000) : Calls Tryz.prog 51 #[.string ⟨s.toArray⟩, .string ⟨#[10]⟩] w fun e w' => e = .returned (.string ⟨(trimN s).toArray⟩) ∧ w' = w := by
  have CT := Lib.hid (trimByte_any s w hs)
  cases s with
  | nil =>
    clear CT
    go_enter Tryz.func51, Tryz.ntmps51
    go_wp2_with fail
    go_ret
    exact ⟨rfl, rfl⟩
  | cons c t =>
    generalize hdt : c :: t = x at *
    have hx0 : (⟨x.toArray⟩ : ByteArray).data.toList.isEmpty = false := by rw [← hdt]; rfl
    have hx1 : x.isEmpty = false := by rw [← hdt]; rfl
    generalize trimN x = T at *
    clear hdt
    go_enter Tryz.func51, Tryz.ntmps51
    go_wp2_with fail
    refine CT.out.mono ?_
    rintro e w1 ⟨rfl, rfl⟩
    go_wp2_with fail
    go_ret
    exact ⟨rfl, rfl⟩
theorem ltrim_any (s : List UInt8) (w : World) (hs : s.length ≤ 1000000) : Calls Tryz.prog 24 #[.string ⟨s.toArray⟩] w fun e w' => e = .returned (.string ⟨(trimN s).toArray⟩) ∧ w' = w := by
  have CT := Lib.hid (trimRight_any s w hs)
  generalize trimN s = T at *
  go_enter Tryz.func24, Tryz.ntmps24
  go_wp2_with fail
  refine CT.out.mono ?_
  rintro e w1 ⟨rfl, rfl⟩
  go_wp2_with fail
  go_ret
  exact ⟨rfl, rfl⟩
end Go.Proofs.YtlhpflilpdceiaaGreatDoor

/- The walks over lists.Count, Same and the document's Parse. Bounds on the lengths. -/
set_option linter.unusedVariables false
set_option linter.unusedSimpArgs false
namespace Go.Proofs.YtlhpflilpdceiaaGreatDoor
open Go.RowKit

theorem number_small (i : Nat) (hi : i < 100) (w : World) : Calls Tryz.prog 50 #[.int .i64 i] w fun e w' => e = .returned (.string ⟨(Lib.decDigits i).toArray⟩) ∧ w' = w := by
  have HC := Lib.hid (Tryz.strconv_Itoa_small i hi w)
  generalize Lib.decDigits i = d at *
  go_enter Tryz.func50, Tryz.ntmps50
  go_wp2_with fail
  refine HC.out.mono ?_
  rintro e w' ⟨rfl, rfl⟩
  go_wp2_with fail
  go_ret
  exact ⟨rfl, rfl⟩
theorem count_any (v : Value) (L : List (List UInt8)) (w : World) (hv : SlS w v L) (hL : L.length < 100) : Calls Tryz.prog 21 #[v] w (OwnRet [Lib.decDigits L.length] w) := by
  obtain ⟨A, c, rfl, hrd, _⟩ := hv
  have HC := Lib.hid (number_small L.length hL w)
  generalize Lib.decDigits L.length = d at *
  generalize L.length = m at *
  clear hrd
  go_enter Tryz.func21, Tryz.ntmps21
  go_wp2_with fail
  refine HC.out.mono ?_
  rintro e w' ⟨rfl, rfl⟩
  go_wp2_with fail
  go_ret
  exact ⟨_, rfl, World.ownsRow_lit w' #[.string ⟨d.toArray⟩] 1 (Nat.le_refl _) (by decide) rfl, below1 w' _⟩
/-- A numeral's number. -/
def valD (l : List UInt8) : Nat := l.foldl (fun a c => 10 * a + (c.toNat - 48)) 0
def numeral (l : List UInt8) : Bool := decide (1 ≤ l.length) && decide (l.length ≤ 9) && (decide (l.length = 1) || decide (l.head? ≠ some 48)) && l.all (fun c => decide (48 ≤ c.toNat) && decide (c.toNat ≤ 57))
theorem dec_numeral : ∀ n, n < 61 → numeral (Lib.decDigits n) = true ∧ valD (Lib.decDigits n) = n := by decide +kernel
theorem valD_snoc (l : List UInt8) (c : UInt8) : valD (l ++ [c]) = 10 * valD l + (c.toNat - 48) := by simp [valD]
theorem valD_le : ∀ (n : Nat) (l : List UInt8), l.length ≤ n → (∀ c ∈ l, c.toNat ≤ 57) → valD l < 10 ^ l.length
  | n, l, hn, h => by
    rcases List.eq_nil_or_concat l with rfl | ⟨t, c, rfl⟩
    · decide
    · rw [List.concat_eq_append] at *
      have hl : t.length < (t ++ [c]).length := by simp
      have ih := valD_le (n - 1) t (by simp at hn; omega) (fun x hx => h x (by simp [hx]))
      have hc := h c (by simp)
      rw [valD_snoc, List.length_append, List.length_singleton, Nat.pow_succ]
      omega
  termination_by _ l => l.length
theorem take_u8s (s : ByteArray) (k : Nat) (h : k < s.size) : s.data.toList.take (k + 1) = s.data.toList.take k ++ [s[k]] := by
  rw [List.take_succ_eq_append_getElem (by simpa using h)]; rfl
end Go.Proofs.YtlhpflilpdceiaaGreatDoor

/- Small words on lists of texts for the laws of chapter 3. No condition. -/
set_option linter.unusedVariables false
set_option linter.unusedSimpArgs false
namespace Go.Proofs.YtlhpflilpdceiaaGreatDoor
open Go.RowKit

def errV (a : Addr) : Option (List (List UInt8)) → Value
  | none => bigV a
  | some _ => .nilIface
theorem ListRet.lv {r : Option (List (List UInt8))} {a : Addr} {w : World} {e : Ending} {w' : World} (h : ListRet r a w e w') : ∃ v er, e = .returned (.tuple #[v, er]) ∧ er = errV a r ∧ SlS w' v (r.getD []) ∧ Below w.heap.size w w' := by
  cases r with
  | none => exact ⟨_, _, h.1, rfl, SlS.nil _, h.2⟩
  | some l =>
    obtain ⟨v, rfl, ho, hb⟩ := h
    exact ⟨v, _, rfl, rfl, ho.rd, hb⟩
theorem ListRet.lw {r : Option (List (List UInt8))} {a : Addr} {w : World} {e : Ending} {w' : World} (h : ListRet r a w e w') : ∃ A n c er, e = .returned (.tuple #[.slice A n c, er]) ∧ er = errV a r ∧ SlS w' (.slice A n c) (r.getD []) ∧ Below w.heap.size w w' := by
  obtain ⟨v, er, h1, h2, h3, h4⟩ := h.lv
  have h5 := h3
  obtain ⟨A, c, rfl, _⟩ := h5
  exact ⟨A, _, c, er, h1, h2, h3, h4⟩
theorem sumL_mem {s : List UInt8} : ∀ {l : List (List UInt8)}, s ∈ l → s.length ≤ sumL l
  | x :: t, h => by
    simp only [sumL]
    rcases List.mem_cons.1 h with rfl | h
    · omega
    · have := sumL_mem h; omega
theorem sumLL_mem {x : List (List UInt8)} : ∀ {ls : List (List (List UInt8))}, x ∈ ls → sumL x ≤ sumLL ls
  | y :: t, h => by
    simp only [sumLL]
    rcases List.mem_cons.1 h with rfl | h
    · omega
    · have := sumLL_mem h; omega
theorem light_small {ls : List (List (List UInt8))} (h : lightL ls = true) : ∀ x ∈ ls, x.length ≤ 130 ∧ ∀ s ∈ x, s.length ≤ 20000 := by
  simp only [lightL, Bool.and_eq_true, decide_eq_true_eq, List.all_eq_true] at h
  obtain ⟨⟨_, h2⟩, h3⟩ := h
  intro x hx
  refine ⟨by simpa using h2 x hx, fun s hs => ?_⟩
  have h4 := sumLL_mem hx
  have h5 := sumL_mem hs
  omega
theorem sml_cat {ls : List (List (List UInt8))} : Sml ((catL ls).getD []) := by
  cases h : catL ls with
  | none => exact Sml.of [] (by decide)
  | some r => exact Sml.of_big (cat_some ls [] r h).2
theorem sml_joined {ls : List (List (List UInt8))} : ∀ r, joinL ls = some r → bigL r = false := by
  have key : ∀ (t : List (List (List UInt8))) (acc r : List (List UInt8)), joinGo t acc = some r → bigL r = false := by
    intro t
    induction t with
    | nil => intro acc r h; rw [joinGo] at h; exact (bound_some h).2
    | cons x t ih =>
      intro acc r h
      rw [joinGo] at h
      split at h
      · cases h
      · exact ih _ _ h
  intro r h
  cases ls with
  | nil =>
    simp only [joinL, Option.some.injEq] at h
    subst h
    decide
  | cons x t => exact key t _ r h
theorem sml_join {ls : List (List (List UInt8))} : Sml ((joinL ls).getD []) := by
  cases h : joinL ls with
  | none => exact Sml.of [] (by decide)
  | some r => exact Sml.of_big (sml_joined r h)
theorem sml_three {x y z : List (List UInt8)} (h1 : Sml x) (h2 : Sml y) (h3 : Sml z) : ∀ u ∈ [x, y, z], Sml u := by
  intro u hu
  simp only [List.mem_cons, List.not_mem_nil, or_false] at hu
  rcases hu with rfl | rfl | rfl
  · exact h1
  · exact h2
  · exact h3
end Go.Proofs.YtlhpflilpdceiaaGreatDoor

/- The walks over slices.Equal and lists.Same. Bounds on the lengths. -/
set_option linter.unusedVariables false
set_option linter.unusedSimpArgs false
namespace Go.Proofs.YtlhpflilpdceiaaGreatDoor
open Go.RowKit

set_option maxRecDepth 100000 in
set_option maxHeartbeats 1000000 in
theorem equal_any (A B : Option Addr) (ca cb : Nat) (la lb : List (List UInt8)) (w : World) (ha : RdL w 1 strc A la) (hb : RdL w 1 strc B lb) (hla : la.length ≤ 1000000) (hlb : lb.length ≤ 1000000) :
    Calls Tryz.prog 52 #[.slice A la.length ca, .slice B lb.length cb] w (Ret w (.bool (decide (la = lb)))) := by
  by_cases hl : la.length = lb.length
  · have HL := Lib.hid hl
    have hne : ((la.length : Int) != (lb.length : Int)) = false := by simp; omega
    clear hl
    go_enter Tryz.func52, Tryz.ntmps52
    go_wp2_with fail
    go_loopw [13] (fun i wr => ∃ k : Nat, k ≤ la.length ∧ i = .int .i64 k ∧ Below w.heap.size w wr ∧ Hid (la.take k = lb.take k)) (fun i _ => la.length - (intOf i).toNat)
    case atStart => exact ⟨0, Nat.zero_le _, rfl, Below.refl _ _, by simp [Hid]⟩
    case round =>
      obtain ⟨k, hk, rfl, hbw, H⟩ := hrel
      by_cases hlt : k < la.length
      · have hlt2 : k < lb.length := by rw [← HL.out]; exact hlt
        obtain ⟨b1, o1, rfl, _, hc1⟩ := (ha.below hbw) k hlt
        obtain ⟨b2, o2, rfl, _, hc2⟩ := (hb.below hbw) k hlt2
        have c1 := hc1 0 _ rfl
        have c2 := hc2 0 _ rfl
        clear hc1 hc2
        simp only [Nat.mul_one, Nat.add_zero] at c1 c2
        obtain ⟨x, hx⟩ : ∃ x, x = la[k] := ⟨_, rfl⟩
        obtain ⟨y, hy⟩ : ∃ y, y = lb[k] := ⟨_, rfl⟩
        rw [← hx] at c1
        rw [← hy] at c2
        have HX := Lib.hid hx
        have HY := Lib.hid hy
        clear hx hy
        have l1 := Later.cell c1
        have l2 := Later.cell c2
        go_wp2_with fail
        refine wp_region_later (by kernel_rfl) (by kernel_rfl) ?_
        repeat (go_big_quiet_step (fail))
        refine wpQuiet_nil ?_
        rintro w2 ⟨⟨_, hb2⟩, rfl⟩
        have hbw2 := hbw.trans (hb2.mono hbw.size)
        clear l1 l2 c1 c2 hb2
        have HXY := Lib.hid (show ((x == y) = true → x = y) ∧ ((x == y) = false → x ≠ y) from ⟨eq_of_beq, ne_of_beq_false⟩)
        generalize (x == y) = qq at *
        have HXT := Lib.hid (fun h : qq = true => HXY.out.1 h)
        have HXF := Lib.hid (fun h : qq = false => HXY.out.2 h)
        clear HXY
        cases qq
        rotate_left
        · have hxy := HXT.out rfl
          have HE := Lib.hid (show la.take (k + 1) = lb.take (k + 1) by
            rw [List.take_succ_eq_append_getElem hlt, List.take_succ_eq_append_getElem hlt2, H.out, ← HX.out, ← HY.out, hxy])
          clear hxy H HXT HXF
          go_wp2_with fail
          go_roundw
          case rel => exact ⟨k + 1, by omega, by go_num, hbw2, HE⟩
          case measure => simp [intOf]; omega
        · have hxy := HXF.out rfl
          have HE := Lib.hid (show decide (la = lb) = false by
            rw [decide_eq_false_iff_not]; intro h; subst h; exact hxy (HX.out.trans HY.out.symm))
          clear hxy H HXT HXF
          go_wp2_with fail
          go_ret
          exact ⟨by rw [HE.out]; rfl, hbw2⟩
      · have HE := Lib.hid (show decide (la = lb) = true by
          rw [decide_eq_true_eq]
          have h := H.out
          rwa [List.take_of_length_le (by omega), List.take_of_length_le (by rw [← HL.out]; omega)] at h)
        clear H
        go_wp2_with fail
        go_ret
        exact ⟨by rw [HE.out]; rfl, hbw⟩
  · have hne : ((la.length : Int) != (lb.length : Int)) = true := by simp; omega
    have HE := Lib.hid (show decide (la = lb) = false by
      rw [decide_eq_false_iff_not]; intro h; subst h; exact hl rfl)
    clear hl
    go_enter Tryz.func52, Tryz.ntmps52
    go_wp2_with fail
    go_ret
    exact ⟨by rw [HE.out]; rfl, Below.refl _ _⟩
theorem same_any (va vb : Value) (a b : List (List UInt8)) (w : World) (ha : SlS w va a) (hb : SlS w vb b) (hla : a.length ≤ 1000000) (hlb : b.length ≤ 1000000) :
    Calls Tryz.prog 26 #[va, vb] w (Ret w (.bool (decide (a = b)))) := by
  obtain ⟨A, c, rfl, hr, _⟩ := ha
  obtain ⟨B, d, rfl, hs, _⟩ := hb
  have HC := Lib.hid (equal_any A B c d a b w hr hs hla hlb)
  generalize decide (a = b) = q at *
  generalize a.length = m at *
  generalize b.length = n at *
  clear hr hs
  go_enter Tryz.func26, Tryz.ntmps26
  go_wp2_with fail
  refine HC.out.mono ?_
  rintro e w2 ⟨rfl, hb2⟩
  go_wp2_with fail
  go_ret
  exact ⟨rfl, hb2⟩
end Go.Proofs.YtlhpflilpdceiaaGreatDoor
