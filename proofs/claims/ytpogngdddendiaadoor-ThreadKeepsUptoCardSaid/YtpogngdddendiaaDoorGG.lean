/- The walk over thread.Reached's own push: places that are not seen yet are seen, and are to be looked at. Bounds on the lengths. -/
import Derived.Test.YtpogngdddendiaaDoorGB
import Derived.Maps.AppendAt
import Derived.WalkSmall
import Derived.Handy
import Derived.Test.YtpogngdddendiaaDoorGQ
import Derived.Test.YtpogngdddendiaaDoorGI
set_option linter.unusedVariables false
set_option linter.unusedSimpArgs false
namespace Go.Proofs.YtpogngdddendiaaDoor
open Go.RowKit

section
variable {P : Program} {ops : Array Oper} {Q : Exit → Act → World → Prop} {a : Act} {w : World} {rest : List Oper} {o : Oper}
/-- append of one element, with the place where the new row lies. -/
theorem wpList_pushAt (hgd : o.guard = none) (s x : Operand) (t : TypeId) (ho : o.op = .call { callee := .builtin .append, args := #[s, x], argTypes := #[t, t] })
    {e : TypeId} {i : TypeInfo} {z : Value} {sz bytes : Nat} (ht : P.underlying t = some (.slice e)) (hi : P.info? e = some i) (hz : i.zero = some z) (hsize : i.size = sz) (hby : i.bytes = bytes) (hzs : z.cells.size = sz) (hsz : 0 < sz)
    {base n : Nat} {v : Value} {xs : List Value} {cs : Array Value} (hown : w.ownsRow base e sz v n xs) (hs : a.eval s = v) (hx : a.eval x = .slice (some ⟨w.heap.size, 0, none⟩) 1 1) (hcs : cs.size = sz) (h1 : ∀ u ∈ cs.toList, u.oneCell' = true)
    (hbytes : (n + 1) * bytes ≤ 140737488355328) (hb0 : 0 < bytes) (hbase : base ≤ w.heap.size)
    (h : ∀ A' c' w', w'.ownsRow base e sz (.slice A' (n + 1) c') (n + 1) (xs ++ cs.toList) → w.grownBy w' v.ownBlock → (∀ g, (Value.slice A' (n + 1) c').ownBlock = some g → v.ownBlock = some g ∨ w.heap.size ≤ g) → wpList P ops Q rest (a.put o.dst (.slice A' (n + 1) c')) w') :
    wpList P ops Q (o :: rest) a (w.alloc (.cells cs e)) := by
  refine wpList_append_own_at _ hgd s x t ho base e i z sz bytes ht hi hz hsize hby hzs hsz v n xs hs (hown.alloc _) ⟨w.heap.size, 0, none⟩ 1 1 cs.toList hx (by simp [hcs]) ?_ h1 ?_ hbytes (by simp; omega) ?_
  · intro j u hu
    rw [Addr.add_lit, Nat.zero_add, cell_of_row _ _ j cs e (0, 0) (heap_alloc_new w _)]
    simpa using hu
  · have := Nat.le_mul_of_pos_right (n + 1) hb0
    simp only [maxLen]; omega
  · intro v' w' hown' hgrow _ hat
    obtain ⟨A', c', rfl, _⟩ := own_form hown'
    refine h A' c' w' hown' ((World.grownBy_alloc w _ _).trans hgrow) fun g hg => ?_
    rcases hat with hat | hat
    · exact .inl (hat.symm.trans hg)
    · rw [hg] at hat
      injection hat with hat
      right
      have : (w.alloc (.cells cs e)).heap.size = w.heap.size + 1 := Array.size_push _
      omega
end
/-- What push makes of what is seen and of what is to be looked at. -/
def pushS : List Bool → List Nat → List Nat → List Bool × List Nat
  | seen, W, [] => (seen, W)
  | seen, W, k :: L => if seen[k]? = some true then pushS seen W L else pushS (seen.set k true) (W ++ [k]) L
theorem WInv.pushS {tg : Nat → List Nat} {n : Nat} {i : Nat} : ∀ {L : List Nat} {seen : List Bool} {W : List Nat}, WInv tg n seen W (some i) L → (∀ k ∈ L, k < n) → WInv tg n (Go.Proofs.YtpogngdddendiaaDoor.pushS seen W L).1 (Go.Proofs.YtpogngdddendiaaDoor.pushS seen W L).2 (some i) []
  | [], seen, W, h, _ => h
  | k :: L, seen, W, h, hL => by
    rw [Go.Proofs.YtpogngdddendiaaDoor.pushS]
    split
    · rename_i hs
      exact WInv.pushS (h.skip hs) fun q hq => hL q (List.mem_cons_of_mem _ hq)
    · exact WInv.pushS (h.push (hL k (List.mem_cons_self ..))) fun q hq => hL q (List.mem_cons_of_mem _ hq)
theorem pushS_meas : ∀ {L : List Nat} {seen : List Bool} {W : List Nat}, (∀ k ∈ L, k < seen.length) → (pushS seen W L).2.length + (pushS seen W L).1.count false = W.length + seen.count false
  | [], seen, W, _ => rfl
  | k :: L, seen, W, h => by
    rw [pushS]
    split
    · exact pushS_meas fun q hq => h q (List.mem_cons_of_mem _ hq)
    · rename_i hs
      rw [pushS_meas (fun q hq => by rw [List.length_set]; exact h q (List.mem_cons_of_mem _ hq)), List.length_append]
      have hk := h k (List.mem_cons_self ..)
      have : seen[k]? = some false := by
        rw [List.getElem?_eq_getElem hk] at hs ⊢
        cases hb : seen[k] with
        | false => rfl
        | true => rw [hb] at hs; exact absurd rfl hs
      have := @count_set 0 seen k this
      simp
      omega
/-- Within Reached: what is seen, what is to be looked at. -/
structure RcW (w : World) (base g3 gb g4 n : Nat) (seen : List Bool) (W : List Nat) (A : Option Addr) (c : Nat) : Prop where
  b3 : Blk w g3 33 #[.slice (some ⟨gb, 0, none⟩) n n]
  sb : rowB w base gb n seen
  b4 : Blk w g4 45 #[.slice A W.length c]
  wk : w.ownsRow base 3 1 (.slice A W.length c) W.length (W.flatMap intN)
  h3 : base ≤ g3
  h4 : base ≤ g4
def tsR : List TypeId := [4, 3, 45]
/-- All that was there stands but rows of one's own, of bools, numbers and slices of numbers. -/
structure FrR (base : Nat) (w w' : World) : Prop where
  others : Others tsR w w'
  below : Below base w w'
theorem FrR.refl (base : Nat) (w : World) : FrR base w w := ⟨Others.refl _ _, Below.refl _ _⟩
theorem FrR.trans {base : Nat} {a b c : World} (h : FrR base a b) (h' : FrR base b c) : FrR base a c := ⟨h.others.trans h'.others, h.below.trans h'.below⟩
theorem FrR.of {base : Nat} {w w' : World} (h : Below w.heap.size w w') (hb : base ≤ w.heap.size) : FrR base w w' := ⟨Others.of_below h, h.mono hb⟩
section
variable {w w' : World} {base g3 gb g4 n : Nat} {seen : List Bool} {W : List Nat} {A : Option Addr} {c : Nat}
theorem RcW.below (h : RcW w base g3 gb g4 n seen W A c) (hb : Below w.heap.size w w') : RcW w' base g3 gb g4 n seen W A c := ⟨h.b3.below hb, h.sb.below hb, h.b4.below hb, own_below h.wk hb, h.h3, h.h4⟩
theorem RcW.see (h : RcW w base g3 gb g4 n seen W A c) (k : Nat) (hs : base ≤ w.heap.size) : RcW (w.setCell ⟨gb, k, none⟩ (.bool true)) base g3 gb g4 n (seen.set k true) W A c ∧ FrR base w (w.setCell ⟨gb, k, none⟩ (.bool true)) ∧ But gb w (w.setCell ⟨gb, k, none⟩ (.bool true)) := by
  obtain ⟨hge, cur, hB⟩ := own_blk h.sb
  have hb := But.set (B := gb) w k (.bool true)
  exact ⟨⟨hb.blk h.b3 (h.b3.apart hB (by decide)), h.sb.set k true, hb.blk h.b4 (h.b4.apart hB (by decide)), own_but h.wk hb hB (by decide), h.h3, h.h4⟩, ⟨Others.setCell (p := ⟨gb, k, none⟩) hB (by decide) _, hb.below hge hs⟩, hb⟩
/-- One is put behind those that are to be looked at. -/
theorem RcW.grow {k : Nat} {A' : Option Addr} {c' : Nat} (h : RcW w base g3 gb g4 n seen W A c) (hs : base ≤ w.heap.size) (hown : w'.ownsRow base 3 1 (.slice A' (W.length + 1) c') (W.length + 1) (W.flatMap intN ++ [.int .i64 (k : Int)])) (hg : w.grownBy w' (Value.slice A W.length c).ownBlock) :
    RcW (w'.setCell ⟨g4, 0, none⟩ (.slice A' (W.length + 1) c')) base g3 gb g4 n seen (W ++ [k]) A' c' ∧ FrR base w (w'.setCell ⟨g4, 0, none⟩ (.slice A' (W.length + 1) c')) ∧ Blk w' g4 45 #[.slice A W.length c] := by
  have hbl : Below base w w' := (Below.refl base w).grown hg hs fun k hk => (h.wk.lt k hk).1
  have hk : ∀ (g : Nat) (cs : Array Value) (T : TypeId) (fr : Nat × Nat), w.heap[g]? = some (.cells cs T fr) → T ≠ 3 → w'.heap[g]? = some (.cells cs T fr) := by
    intro g cs T fr hgc hT
    have hne : (Value.slice A W.length c).ownBlock ≠ some g := by
      intro e
      rcases h.wk.2 with ⟨h', _⟩ | ⟨g', cap', cur, h', _, hg', _⟩
      · rw [h'] at e; cases e
      · rw [h'] at e
        injection e with e
        subst e
        rw [hgc] at hg'
        injection hg' with hg'
        injection hg' with _ hg' _
        exact hT hg'
    rw [hg.block g (Array.getElem?_eq_some_iff.1 hgc).1 (fun e => hne e.symm)]
    exact hgc
  have hb4 : Blk w' g4 45 #[.slice A W.length c] := hk _ _ _ _ h.b4 (by decide)
  have hb := But.set (B := g4) w' 0 (.slice A' (W.length + 1) c')
  have hoth : Others tsR w w' := fun g cs T fr hgc hT => hk g cs T fr hgc (fun e => hT (by rw [e]; decide))
  have hsb : rowB w' base gb n seen := by
    rcases h.sb with ⟨h1, h2⟩
    refine ⟨h1, h2.imp id fun ⟨g', cap', cur, h', hb', hg', r⟩ => ⟨g', cap', cur, h', hb', hk _ _ _ _ hg' (by decide), r⟩⟩
  refine ⟨⟨hb.blk (hk _ _ _ _ h.b3 (by decide)) ((show Blk w g3 _ _ from h.b3).apart h.b4 (by decide)), hsb.but hb hb4 (by decide), ?_, ?_, h.h3, h.h4⟩, ⟨hoth.trans (Others.setCell (p := ⟨g4, 0, none⟩) hb4 (by decide) _), hbl.trans (hb.below h.h4 (Nat.le_trans hs hbl.size))⟩, hb4⟩
  · rw [List.length_append]
    have := hb4.set 0 (.slice A' (W.length + 1) c')
    simpa using this
  · rw [List.length_append, List.flatMap_append]
    exact own_but hown hb hb4 (by decide)
end
theorem own_eq (A : Option Addr) (n c n' : Nat) : (Value.slice A n c).ownBlock = (Value.slice A n' c).ownBlock := by cases A <;> rfl
theorem own_at {A : Option Addr} {n c n' g : Nat} (h : (Value.slice A n c).ownBlock = some g) : (Value.slice A n' c).ownBlock = some g := by rw [own_eq A n' c n]; exact h
theorem rd_of_own {w : World} {b c n : Nat} {A : Option Addr} {L : List Nat} (h : w.ownsRow b 3 1 (.slice A n c) n (L.flatMap intN)) : RdL w 1 intN A L := by
  obtain ⟨A', c', he, _, _, h2, _⟩ := RdL.of_own (enc := intN) (sz := 1) (fun _ => rfl) h (own_len1 (fun _ => rfl) h).symm
  injection he with he
  subst he
  exact h2
/-- What push leaves behind. -/
def Pushed (base g3 gb g4 n : Nat) (r : List Bool × List Nat) (w : World) (e : Ending) (w' : World) : Prop :=
  e = .returned (.tuple #[]) ∧ ∃ A c, RcW w' base g3 gb g4 n r.1 r.2 A c ∧ FrR base w w'
set_option maxRecDepth 100000 in
set_option maxHeartbeats 4000000 in
theorem push_rc (base g3 gb g4 n cl c : Nat) (seen : List Bool) (W L : List Nat) (AL A : Option Addr) (w : World) (hw : RcW w base g3 gb g4 n seen W A c) (hs : base ≤ w.heap.size) (bL : Nat) (hL : w.ownsRow bL 3 1 (.slice AL L.length cl) L.length (L.flatMap intN)) (hLn : ∀ k ∈ L, k < n) (hap : ∀ g, (Value.slice A W.length c).ownBlock = some g → (Value.slice AL L.length cl).ownBlock ≠ some g) (hll : L.length ≤ 9000) (hn : n ≤ 9000) (hm : W.length + seen.count false ≤ 20000) :
    Calls Tryd.prog 37 #[.slice AL L.length cl, .pointer (some ⟨g3, 0, none⟩), .pointer (some ⟨g4, 0, none⟩)] w (Pushed base g3 gb g4 n (pushS seen W L) w) := by
  obtain ⟨i0, hi, hz0, hz1, hz2⟩ := info_parts infoIntC
  obtain ⟨l, hl⟩ : ∃ l, L.length = l := ⟨_, rfl⟩
  have HLL := Lib.hid hl
  have HRD := Lib.hid hL
  have HLN := Lib.hid hLn
  have HW := Lib.hid hw
  have HAP := Lib.hid hap
  have HM := Lib.hid hm
  have HSZ := Lib.hid hs
  rw [hl] at hll ⊢
  clear hl hL hLn hw hap hm hs
  go_enter Tryd.func37, Tryd.ntmps37
  go_wp2_with fail
  go_loopw [8] (fun v wr => ∃ (k : Nat) (seen' : List Bool) (W' : List Nat) (A' : Option Addr) (c' : Nat), k ≤ l ∧ v = .int .i64 k ∧ Hid (RcW wr base g3 gb g4 n seen' W' A' c') ∧ Hid (pushS seen' W' (L.drop k) = pushS seen W L) ∧ Hid (wr.ownsRow bL 3 1 (.slice AL L.length cl) L.length (L.flatMap intN)) ∧ Hid (∀ g, (Value.slice A' W'.length c').ownBlock = some g → (Value.slice AL L.length cl).ownBlock ≠ some g) ∧ Hid (W'.length + seen'.count false ≤ 20000) ∧ Hid (FrR base w wr)) (fun v _ => l - (intOf v).toNat)
  case atStart => exact ⟨0, seen, W, A, c, Nat.zero_le _, rfl, HW, Lib.hid rfl, HRD, HAP, HM, Lib.hid (FrR.refl _ _)⟩
  case round =>
    clear HW HRD HAP HM
    obtain ⟨k, seen', W', A', c', hk, rfl, HW, HE, HRD, HAP, HM, HFR⟩ := hrel
    have HS := Lib.hid (show base ≤ wr.heap.size from Nat.le_trans HSZ.out HFR.out.below.size)
    by_cases hlt : k < l
    · have hkL : k < L.length := by rw [HLL.out]; exact hlt
      obtain ⟨b, o, rfl, hbl, hcell⟩ := (rd_of_own HRD.out) k hkL
      obtain ⟨q, hq⟩ : ∃ q, q = L[k] := ⟨_, rfl⟩
      have hdr := List.drop_eq_getElem_cons hkL
      have hqn := HLN.out L[k] (List.getElem_mem _)
      rw [← hq] at hcell hdr hqn
      have c0 := hcell 0 _ rfl
      simp only [Nat.add_zero, Nat.mul_one] at c0
      have HDR := Lib.hid hdr
      obtain ⟨sb, hsb⟩ : ∃ sb, seen'[q]? = some sb := ⟨_, List.getElem?_eq_getElem (by rw [HW.out.sb.len]; exact hqn)⟩
      have z3 := HW.out.b3.cell 0
      have s0 := HW.out.sb.cell hsb
      simp only [List.getElem?_toArray, List.getElem?_cons_zero] at z3
      clear hcell hq hdr hkL
      cases sb with
      | true =>
        have HE2 := Lib.hid (show pushS seen' W' (L.drop (k + 1)) = pushS seen W L by rw [← HE.out, HDR.out, pushS, if_pos hsb])
        clear HE HDR hsb
        go_wp2_with fail
        go_roundw
        case rel => exact ⟨k + 1, seen', W', A', c', by omega, by go_num, HW, HE2, HRD, HAP, HM, HFR⟩
        case measure => simp [intOf]; omega
      | false =>
        have HE2 := Lib.hid (show pushS (seen'.set q true) (W' ++ [q]) (L.drop (k + 1)) = pushS seen W L by rw [← HE.out, HDR.out, pushS, if_neg (by rw [hsb]; simp)])
        have HM2 := Lib.hid (show (W' ++ [q]).length + (seen'.set q true).count false ≤ 20000 by
          have h1 := @count_set 0 seen' q hsb
          have h2 := HM.out
          rw [List.length_append]
          simp
          omega)
        have hwl : W'.length ≤ 20000 := by have := HM.out; omega
        have fs := HW.out.sb.frozenAt q
        obtain ⟨h1, h2, h3⟩ := HW.out.see q HS.out
        have HW2 := Lib.hid h1
        have HF2 := Lib.hid (HFR.out.trans h2)
        have HB2 := Lib.hid h3
        have HRD2 := Lib.hid (show (wr.setCell ⟨gb, q, none⟩ (.bool true)).ownsRow bL 3 1 _ L.length (L.flatMap intN) from by
          obtain ⟨_, cur, hB⟩ := own_blk HW.out.sb
          exact own_but HRD.out h3 hB (by decide))
        clear h1 h2 h3 HE HDR hsb HM HFR HRD hbl
        go_upto_region 5 with (fail)
        generalize wr.setCell ⟨gb, q, none⟩ (.bool true) = w5 at *
        have hs5 : base ≤ w5.heap.size := Nat.le_trans HSZ.out HF2.out.below.size
        have hown := HW2.out.wk
        have z4 := HW2.out.b4.cell 0
        simp only [List.getElem?_toArray, List.getElem?_cons_zero] at z4
        clear z3 s0 fs HW c0
        obtain ⟨lw, hlw⟩ : ∃ lw, W'.length = lw := ⟨_, rfl⟩
        have HLW := Lib.hid hlw
        rw [hlw] at hown z4 hwl
        clear hlw
        go_upto_region 6 with (at_builtin; refine wpList_pushAt rfl _ _ _ rfl Tryd.underlying45 hi hz0 hz1 hz2 rfl (by decide) hown rfl rfl rfl (by simp [Value.oneCell']) (by omega) (by decide) hs5 ?_; intro A8 c8 w8 ho8 hg8 ha8; have HG := Lib.hid (HW2.out.grow (k := q) (A' := A8) (c' := c8) hs5 (by rw [HLW.out]; exact ho8) (by rw [HLW.out]; exact hg8)); have f4 := HG.out.2.2.frozen 0; have z4 := HG.out.2.2.cell 0; simp only [List.getElem?_toArray, List.getElem?_cons_zero] at z4)
        have HW3 := Lib.hid (show RcW (w8.setCell ⟨g4, 0, none⟩ (.slice A8 (lw + 1) c8)) base g3 gb g4 n (seen'.set q true) (W' ++ [q]) A8 c8 by have := HG.out.1; rwa [HLW.out] at this)
        have HF3 := Lib.hid (show FrR base w (w8.setCell ⟨g4, 0, none⟩ (.slice A8 (lw + 1) c8)) by have := HG.out.2.1; rw [HLW.out] at this; exact HF2.out.trans this)
        have HAP2 := Lib.hid (show ∀ g, (Value.slice A8 (W' ++ [q]).length c8).ownBlock = some g → (Value.slice (some ⟨b, o, none⟩) L.length cl).ownBlock ≠ some g from fun g hg e => by
          rcases ha8 g (own_at hg) with h | h
          · exact HAP.out g (own_at h) e
          · have := (HRD2.out.lt g e).2
            omega)
        have HRD3 := Lib.hid (show (w8.setCell ⟨g4, 0, none⟩ (.slice A8 (lw + 1) c8)).ownsRow bL 3 1 (.slice (some ⟨b, o, none⟩) L.length cl) L.length (L.flatMap intN) from by
          refine own_but (World.ownsRow.kept HRD2.out hg8 (.inr fun e => ?_)) (But.set w8 0 _) HG.out.2.2 (by decide)
          have h1 : (Value.slice (some ⟨b, o, none⟩) L.length cl).ownBlock = some b := rfl
          rw [h1] at e
          refine HAP.out b ?_ h1
          rw [e]
          exact own_eq _ _ _ _)
        clear HG f4 z4 ho8 hg8 ha8 hown HW2 HF2 HB2 HRD2 HAP
        generalize w8.setCell ⟨g4, 0, none⟩ (.slice A8 (lw + 1) c8) = w9 at *
        go_wp2_with fail
        go_roundw
        case rel => exact ⟨k + 1, seen'.set q true, W' ++ [q], A8, c8, by omega, by go_num, HW3, HE2, HRD3, HAP2, HM2, HF3⟩
        case measure => simp [intOf]; omega
    · have hkl : l = k := by omega
      subst hkl
      have HEE := Lib.hid (show (seen', W') = pushS seen W L by rw [← HE.out, List.drop_of_length_le (by rw [HLL.out]; exact Nat.le_refl _)]; rfl)
      clear hlt hk HE
      go_wp2_with fail
      go_returns
      exact ⟨rfl, A', c', by rw [← HEE.out]; exact HW.out, HFR.out⟩
end Go.Proofs.YtpogngdddendiaaDoor

/- The walk over thread.Reached: what can be reached. Bounds on the lengths. -/
set_option linter.unusedVariables false
set_option linter.unusedSimpArgs false
namespace Go.Proofs.YtpogngdddendiaaDoor
open Go.RowKit

theorem targL_in {X : List Ins} {i : Int} : ∀ z ∈ targL X i, 0 ≤ z ∧ z < X.length := by
  intro z hz
  unfold targL at hz
  split at hz
  · cases hz
  · split at hz
    · cases hz
    · split at hz
      · cases hz
      · unfold targX at hz
        have := ((compactZ_sort _).2 z).1 hz
        rw [List.mem_filter] at this
        have h2 := this.2
        simp [outB] at h2
        omega
theorem tgN_lt {X : List Ins} {i : Nat} : ∀ k ∈ tgN X i, k < X.length := by
  intro k hk
  unfold tgN at hk
  obtain ⟨z, hz, rfl⟩ := List.mem_map.1 hk
  have := targL_in z hz
  omega
theorem tgN_enc (X : List Ins) (i : Nat) : (targL X (i : Int)).flatMap intc = (tgN X i).flatMap intN := by
  unfold tgN
  rw [List.flatMap_map]
  have h := targL_in (X := X) (i := (i : Int))
  generalize targL X (i : Int) = l at *
  induction l with
  | nil => rfl
  | cons z l ih =>
    rw [List.flatMap_cons, List.flatMap_cons, ih fun y hy => h y (List.mem_cons_of_mem _ hy)]
    congr 1
    have := h z (List.mem_cons_self ..)
    unfold intc intN
    rw [Int.toNat_of_nonneg this.1]
theorem compactUp_len (d : Array Int) : ∀ m, (Lib.compactUpTo d m).length ≤ m
  | 0 => by simp [Lib.compactUpTo]
  | m + 1 => by
    have := compactUp_len d m
    rw [Lib.compactUpTo_succ, List.length_append]
    split <;> simp <;> omega
theorem targL_len (X : List Ins) (i : Int) : (targL X i).length ≤ 9000 := by
  unfold targL
  split
  · simp
  · split
    · simp
    · split
      · simp
      · rename_i x _ _
        unfold targX Lib.compact
        refine Nat.le_trans (compactUp_len _ _) ?_
        show (sortZ _).length ≤ 9000
        rw [sortZ_len]
        refine Nat.le_trans (List.length_filter_le _ _) ?_
        have := placesL_len x
        rw [List.length_append]
        split <;> simp <;> omega
section
variable {w : World} {base g3 gb g4 n c c' : Nat} {seen seen' : List Bool} {W W' : List Nat} {A A' : Option Addr}
theorem RcW.uniq (h : RcW w base g3 gb g4 n seen W A c) (h' : RcW w base g3 gb g4 n seen' W' A' c') : seen = seen' ∧ W = W' := by
  refine ⟨h.sb.uniq h'.sb, ?_⟩
  have e := h.b4.symm.trans h'.b4
  injection e with e
  injection e with e
  have e2 := congrArg (fun a : Array Value => a[0]?) e
  simp only [List.getElem?_toArray, List.getElem?_cons_zero, Option.some.injEq] at e2
  injection e2 with e3 e4 e5
  subst e3
  refine List.ext_getElem e4 fun k h1 h2 => ?_
  obtain ⟨b, o, hA, _, hc⟩ := rd_of_own h.wk k h1
  obtain ⟨b', o', hA', _, hc'⟩ := rd_of_own h'.wk k h2
  rw [hA] at hA'
  injection hA' with hA'
  injection hA' with hb ho
  subst hb ho
  have c1 := hc 0 _ rfl
  have c2 := hc' 0 _ rfl
  rw [c1] at c2
  injection c2 with c2
  injection c2 with _ c2
  omega
open Classical in
noncomputable def wmOf (w : World) (base g3 gb g4 n : Nat) : Nat := if h : ∃ r : List Bool × List Nat, ∃ A c, RcW w base g3 gb g4 n r.1 r.2 A c then wmeas h.choose.1 h.choose.2 else 0
theorem wmOf_eq (h : RcW w base g3 gb g4 n seen W A c) : wmOf w base g3 gb g4 n = wmeas seen W := by
  have hx : ∃ r : List Bool × List Nat, ∃ A c, RcW w base g3 gb g4 n r.1 r.2 A c := ⟨(seen, W), A, c, h⟩
  unfold wmOf
  rw [dif_pos hx]
  obtain ⟨A2, c2, h2⟩ := hx.choose_spec
  obtain ⟨e1, e2⟩ := h2.uniq h
  rw [e1, e2]
/-- The last one is taken. -/
theorem RcW.pop {g i : Nat} (h : RcW w base g3 gb g4 n seen (W ++ [i]) (some ⟨g, 0, none⟩) c) (hs : base ≤ w.heap.size) :
    RcW (w.setCell ⟨g4, 0, none⟩ (.slice (some ⟨g, 0, none⟩) W.length c)) base g3 gb g4 n seen W (some ⟨g, 0, none⟩) c ∧ FrR base w (w.setCell ⟨g4, 0, none⟩ (.slice (some ⟨g, 0, none⟩) W.length c)) := by
  have hb := But.set (B := g4) w 0 (.slice (some ⟨g, 0, none⟩) W.length c)
  have hw := h.wk
  rw [List.length_append, List.flatMap_append] at hw
  have hp := ownsRow_pop (by rw [flat_len (enc := intN) (sz := 1) (fun _ => rfl)]) hw
  refine ⟨⟨hb.blk h.b3 (h.b3.apart h.b4 (by decide)), h.sb.but hb h.b4 (by decide), ?_, own_but hp hb h.b4 (by decide), h.h3, h.h4⟩, ⟨Others.setCell (p := ⟨g4, 0, none⟩) h.b4 (by decide) _, hb.below h.h4 hs⟩⟩
  have := h.b4.set 0 (.slice (some ⟨g, 0, none⟩) W.length c)
  simpa using this
end
theorem count_set_le : ∀ (l : List Bool) (k : Nat), (l.set k true).count false ≤ l.count false
  | [], k => by simp
  | b :: t, 0 => by simp [List.count_cons]
  | b :: t, k + 1 => by
    have := count_set_le t k
    rw [List.set_cons_succ, List.count_cons, List.count_cons]
    omega
theorem pushS_le : ∀ (L : List Nat) (seen : List Bool) (W : List Nat), (pushS seen W L).1.count false ≤ seen.count false
  | [], seen, W => Nat.le_refl _
  | k :: L, seen, W => by
    rw [pushS]
    split
    · exact pushS_le L seen W
    · exact Nat.le_trans (pushS_le L _ _) (count_set_le seen k)
/-- What can be reached. -/
def Reached_ (X : List Ins) (w : World) (e : Ending) (w' : World) : Prop :=
  ∃ gb, e = .returned (.slice (some ⟨gb, 0, none⟩) X.length X.length) ∧ rowB w' w.heap.size gb X.length (reachL (tgN X) X.length) ∧ Below w.heap.size w w'
set_option maxRecDepth 100000 in
set_option maxHeartbeats 4000000 in
theorem reached_any (A : Option Addr) (c : Nat) (X : List Ins) (st : Int) (w : World) (hrd : RdL w 4 insc A X) (hp : 0 < X.length) (hn : X.length ≤ 9000) :
    Calls Tryd.prog 12 #[.agg #[.slice A X.length c, .int .i64 st]] w (Reached_ X w) := by
  obtain ⟨m, hm⟩ : ∃ m, X.length = m := ⟨_, rfl⟩
  have HM := Lib.hid hm
  have HRD := Lib.hid hrd
  have HN := Lib.hid hn
  obtain ⟨W1, hW1⟩ : ∃ W1, W1 = w.alloc (.cells #[.slice A m c, .int .i64 st] 29) := ⟨_, rfl⟩
  have hb1 : Below w.heap.size w W1 := by rw [hW1]; exact (Below.refl _ _).alloc (Nat.le_refl _) _
  have HB1 := Lib.hid hb1
  have HK1 := Lib.hid (show Blk W1 w.heap.size 29 #[.slice A m c, .int .i64 st] by rw [hW1]; exact Blk.new w _ _)
  rw [hm] at hp hn ⊢
  have z0 := HK1.out.cell 0
  simp only [List.getElem?_toArray, List.getElem?_cons_zero] at z0
  clear hm hrd hb1
  go_enter Tryd.func12, Tryd.ntmps12
  go_upto_region 1 with (fail)
  rw [← hW1]
  obtain ⟨g1, hg1⟩ : ∃ g1, g1 = w.heap.size := ⟨_, rfl⟩
  rw [← hg1] at HK1 z0 ⊢
  have HG1 := Lib.hid hg1
  clear hW1 hg1
  have hs1 := HB1.out.size
  go_upto_region 2 with (at_make; refine wpList_mkB rfl _ _ rfl w.heap.size m _ _ rfl rfl rfl rfl (by omega) hs1 ?_; intro w3 ho3 hb3)
  obtain ⟨gb, hgb⟩ : ∃ gb, gb = W1.heap.size := ⟨_, rfl⟩
  rw [← hgb] at ho3 ⊢
  have HC3 := Lib.hid ho3
  have HB3 := Lib.hid (HB1.out.trans (hb3.mono hs1))
  have HK3 := Lib.hid (HK1.out.below hb3)
  have HGB := Lib.hid hgb
  clear ho3 hb3 hgb z0
  go_upto_region 3 with (fail)
  obtain ⟨W4, hW4⟩ : ∃ W4, W4 = w3.alloc (.cells #[.slice (some ⟨gb, 0, none⟩) m m] 33) := ⟨_, rfl⟩
  obtain ⟨W5, hW5⟩ : ∃ W5, W5 = W4.alloc (.cells #[.slice none 0 0] 45) := ⟨_, rfl⟩
  rw [← hW4, ← hW5]
  obtain ⟨g3, hg3⟩ : ∃ g3, g3 = w3.heap.size := ⟨_, rfl⟩
  obtain ⟨g4, hg4⟩ : ∃ g4, g4 = W4.heap.size := ⟨_, rfl⟩
  have hb4 : Below w3.heap.size w3 W4 := by rw [hW4]; exact (Below.refl _ _).alloc (Nat.le_refl _) _
  have hb5 : Below W4.heap.size W4 W5 := by rw [hW5]; exact (Below.refl _ _).alloc (Nat.le_refl _) _
  have hz4 : W4.heap.size = g3 + 1 := by rw [hW4, hg3]; exact Array.size_push _
  have HRC := Lib.hid (show RcW W5 w.heap.size g3 gb g4 m (List.replicate m false) [] none 0 from
    ⟨by
      have : Blk W4 g3 33 #[.slice (some ⟨gb, 0, none⟩) m m] := by rw [hW4, hg3]; exact Blk.new w3 _ _
      exact this.below hb5, (HC3.out.below hb4).below hb5, by rw [hW5, hg4]; exact Blk.new W4 _ _, World.ownsRow_nil _ _ _ _, by rw [hg3]; exact HB3.out.size, by rw [hg4]; exact Nat.le_trans HB3.out.size hb4.size⟩)
  have HB5 := Lib.hid (HB3.out.trans ((hb4.trans (hb5.mono hb4.size)).mono HB3.out.size))
  have HK5 := Lib.hid ((HK3.out.below hb4).below hb5)
  have hg5 : w3.heap.size + 1 = g4 := by rw [hg4, hz4, hg3]
  rw [hg5, ← hg3]
  clear hg5 hb4 hb5 hz4 hg3 hg4 hW4 hW5 HC3 HB3 HK3 HB1 HK1 hs1 HGB
  have z0 := HK5.out.cell 0
  simp only [List.getElem?_toArray, List.getElem?_cons_zero] at z0
  go_upto_region 5 with (fail)
  have hent : ∀ args W, (callFunc 37 args).run Tryd.prog W = .ok (.enter 37 args) W := fun args W => by kernel_rfl
  have hb6 : Below W5.heap.size W5 (W5.alloc (.cells #[.int .i64 0] 3)) := (Below.refl _ _).alloc (Nat.le_refl _) _
  have HP6 := Lib.hid (push_rc w.heap.size g3 gb g4 m 1 0 (List.replicate m false) [] [0] (some ⟨W5.heap.size, 0, none⟩) none (W5.alloc (.cells #[.int .i64 0] 3)) (HRC.out.below hb6) (Nat.le_trans HB5.out.size hb6.size) 0 (World.ownsRow_lit W5 #[.int .i64 0] 1 (Nat.zero_le _) (by decide) rfl) (fun k hk => by rw [List.mem_singleton] at hk; omega) (fun g hg => by cases hg) (by decide) hn (by simp; omega))
  have HB6 := Lib.hid (HB5.out.trans (hb6.mono HB5.out.size))
  have HK6 := Lib.hid (HK5.out.below hb6)
  clear hb6 z0 HB5 HK5 HRC
  go_wp2_with fail
  refine HP6.out.mono ?_
  rintro e w7 ⟨rfl, A7, c7, hrc, hfr⟩
  have hps : pushS (List.replicate m false) [] [0] = ((List.replicate m false).set 0 true, [0]) := by
    rw [pushS, if_neg (by rw [List.getElem?_replicate, if_pos hp]; simp), pushS]; rfl
  rw [hps] at hrc
  have HRC := Lib.hid hrc
  have HB7 := Lib.hid (HB6.out.trans hfr.below)
  have HK7 := Lib.hid (HK6.out.others hfr.others (by decide))
  have HWI := Lib.hid (WInv.start (tg := tgN X) hp)
  have HCT := Lib.hid (show ([0] : List Nat).length + ((List.replicate m false).set 0 true).count false ≤ 20000 by
    have h1 := @count_set 0 (List.replicate m false) 0 (by rw [List.getElem?_replicate, if_pos hp])
    rw [List.count_replicate_self] at h1
    simp only [List.length_singleton]
    omega)
  clear hps hrc hfr HP6 HB6 HK6
  go_wp2_with fail
  go_loopw [] (fun wr => ∃ (seen : List Bool) (W : List Nat) (A' : Option Addr) (c' : Nat), Hid (WInv (tgN X) m seen W none []) ∧ Hid (RcW wr w.heap.size g3 gb g4 m seen W A' c') ∧ Hid (W.length + seen.count false ≤ 20000) ∧ Hid (Blk wr g1 29 #[.slice A m c, .int .i64 st]) ∧ Hid (Below w.heap.size w wr)) (fun wr => wmOf wr w.heap.size g3 gb g4 m)
  case atStart => exact ⟨_, _, A7, c7, HWI, HRC, HCT, HK7, HB7⟩
  case round =>
    clear HWI HRC HCT HK7 HB7
    obtain ⟨seen, W, A', c', HWI, HRC, HCT, HK, HB⟩ := hrel
    by_cases hW : W = []
    · subst hW
      have z4 := HRC.out.b4.cell 0
      have z3 := HRC.out.b3.cell 0
      simp only [List.getElem?_toArray, List.getElem?_cons_zero, List.length_nil] at z4 z3
      have HE := Lib.hid HWI.out.all
      go_wp2_with fail
      go_ret
      exact ⟨gb, by rw [HM.out]; rfl, by rw [HM.out, ← HE.out]; exact HRC.out.sb, HB.out⟩
    · obtain ⟨W1, i, rfl⟩ : ∃ W1 i, W = W1 ++ [i] := ⟨_, _, (List.dropLast_concat_getLast hW).symm⟩
      clear hW
      have HI := Lib.hid (show i < m by
        have := isS_lt (HWI.out.work i (by simp))
        rwa [HWI.out.len] at this)
      have hs := HB.out.size
      obtain ⟨A3, c3, he, hcap, _, hA3, hn3⟩ := own_form HRC.out.wk
      injection he with he1 _ he3
      subst he1 he3
      obtain ⟨gw, rfl⟩ : ∃ gw, A' = some ⟨gw, 0, none⟩ := by
        cases A' with
        | none => have := (hn3 rfl).1; simp at this
        | some q =>
          obtain ⟨q1, q2, q3⟩ := q
          obtain ⟨_, _, h1, h2⟩ := hA3 _ rfl
          simp only at h1 h2
          subst h1 h2
          exact ⟨q1, rfl⟩
      have hgw := (hA3 _ rfl).2.1
      have hci := ((rd_of_own HRC.out.wk).at_ (k := W1.length) (by simp)).2 0 _ rfl
      have z4 := HRC.out.b4.cell 0
      have f4 := HRC.out.b4.frozen 0
      have HP := Lib.hid (HRC.out.pop hs)
      have HWM := Lib.hid (wmOf_eq HRC.out)
      simp only [List.getElem?_toArray, List.getElem?_cons_zero, Nat.zero_add, Nat.add_zero, Nat.mul_one, List.getElem_concat_length] at hci z4
      rw [List.length_append, List.length_singleton] at z4 hcap
      have HWI2 := Lib.hid (HWI.out.pop (i := i) (W' := W1) (by simp [or_comm]))
      have HCT2 := Lib.hid (show W1.length + seen.count false ≤ 19999 by have := HCT.out; rw [List.length_append] at this; simp at this; omega)
      obtain ⟨l1, hl1⟩ : ∃ l1, W1.length = l1 := ⟨_, rfl⟩
      have HL1 := Lib.hid hl1
      have hl1b : l1 ≤ 20000 := by have := HCT2.out; omega
      rw [hl1] at hci z4 hcap HP
      clear hl1 hA3 hn3 HRC HWI HCT
      go_upto_region 8 with (fail)
      clear hci
      go_upto_region 9 with (fail)
      have HFR := Lib.hid HP.out.2
      have HRC := Lib.hid (show RcW (wr.setCell ⟨g4, 0, none⟩ (.slice (some ⟨gw, 0, none⟩) l1 c')) w.heap.size g3 gb g4 m seen W1 (some ⟨gw, 0, none⟩) c' from HP.out.1)
      have HK2 := Lib.hid (HK.out.others HFR.out.others (by decide))
      have HB2 := Lib.hid (HB.out.trans HFR.out.below)
      have HWM2 := Lib.hid (show wmOf wr w.heap.size g3 gb g4 m = 2 * seen.count false + (l1 + 1) by rw [HWM.out]; unfold wmeas; rw [List.length_append, HL1.out]; rfl)
      have hgz : gw < (wr.setCell ⟨g4, 0, none⟩ (.slice (some ⟨gw, 0, none⟩) l1 c')).heap.size := by simpa [World.setCell] using hgw
      clear HP HFR HK HB HWM f4 z4 hgw hs
      generalize wr.setCell ⟨g4, 0, none⟩ (.slice (some ⟨gw, 0, none⟩) l1 c') = wz at *
      have z0 := HK2.out.cell 0
      have z1 := HK2.out.cell 1
      simp only [List.getElem?_toArray, List.getElem?_cons_zero, List.getElem?_cons_succ] at z0 z1
      have HT := Lib.hid (targets_any A c st (i : Int) X wz HN.out (by have := HI.out; constructor <;> omega) (HRD.out.below HB2.out))
      rw [HM.out] at HT
      have HTL := Lib.hid (targL_len X (i : Int))
      go_wp2_with fail
      refine HT.out.mono ?_
      rintro e w10 ⟨AT, ct, mt, hmt, rfl, hot, hb10⟩
      have HLT := Lib.hid (show (tgN X i).length = mt by rw [hmt]; unfold tgN; rw [List.length_map])
      have HP := Lib.hid (push_rc w.heap.size g3 gb g4 m ct c' seen W1 (tgN X i) AT (some ⟨gw, 0, none⟩) w10 (HRC.out.below hb10) (Nat.le_trans HB2.out.size hb10.size) wz.heap.size (by rw [HLT.out, ← tgN_enc]; exact hot) (fun k hk => by rw [← HM.out]; exact tgN_lt k hk) (fun g hg e => by
        injection hg with hg
        have h1 := own_form hot
        obtain ⟨A5, c5, he, _, _, h5, _⟩ := h1
        injection he with he1 _ _
        subst he1
        cases AT with
        | none => cases e
        | some q =>
          have := (h5 q rfl).1
          injection e with e
          subst hg e
          omega) (by rw [HLT.out, hmt]; exact HTL.out) hn (by have := HCT2.out; omega))
      rw [HLT.out] at HP
      have HK10 := Lib.hid (HK2.out.below hb10)
      have HB10 := Lib.hid (HB2.out.trans (hb10.mono HB2.out.size))
      have hsl : seen.length = m := HWI2.out.len
      have HPM := Lib.hid (pushS_meas (L := tgN X i) (seen := seen) (W := W1) (fun k hk => by rw [hsl, ← HM.out]; exact tgN_lt k hk))
      have HWI3 := Lib.hid ((WInv.pushS HWI2.out (fun k hk => by rw [← HM.out]; exact tgN_lt k hk)).done)
      clear HT HRC HK2 HB2 hot hb10 z0 z1 HWI2 hmt
      go_wp2_with fail
      refine HP.out.mono ?_
      rintro e w11 ⟨rfl, A11, c11, hrc, hfr⟩
      have HRC := Lib.hid hrc
      have HK11 := Lib.hid (HK10.out.others hfr.others (by decide))
      have HB11 := Lib.hid (HB10.out.trans hfr.below)
      have HWM3 := Lib.hid (show wmOf w11 w.heap.size g3 gb g4 m < wmOf wr w.heap.size g3 gb g4 m by
        rw [HWM2.out, wmOf_eq hrc]
        unfold wmeas
        have h1 := HPM.out
        rw [HL1.out] at h1
        have h2 : (pushS seen W1 (tgN X i)).1.count false ≤ seen.count false := pushS_le _ _ _
        omega)
      have HCT3 := Lib.hid (show (pushS seen W1 (tgN X i)).2.length + (pushS seen W1 (tgN X i)).1.count false ≤ 20000 by rw [HPM.out]; have := HCT2.out; omega)
      clear hrc hfr HP HK10 HB10 HPM HCT2 HWM2
      go_wp2_with fail
      go_roundw
      case rel => exact ⟨_, _, A11, c11, HWI3, HRC, HCT3, HK11, HB11⟩
      case measure => exact HWM3.out
end Go.Proofs.YtpogngdddendiaaDoor

/- The walks over the two closures of (*thread.pass).once. Bounds on the lengths. -/
set_option linter.unusedVariables false
set_option linter.unusedSimpArgs false
namespace Go.Proofs.YtpogngdddendiaaDoor
open Go.RowKit

theorem reachL_get {X : List Ins} {n i : Nat} (h : i < n) : (reachL (tgN X) n)[i]? = some (reachB X i) := by
  unfold reachL reachB
  rw [List.getElem?_map, List.getElem?_range h]
  rfl
set_option maxRecDepth 100000 in
set_option maxHeartbeats 2000000 in
theorem once1_any (base g gl cl gr g4 gx i : Nat) (X : List Ins) (st : Int) (vc : Value) (w : World) (hw : PassW w base g gl X cl st vc) (hr : rowB w base gr X.length (reachL (tgN X) X.length)) (h4 : Blk w g4 33 #[.slice (some ⟨gr, 0, none⟩) X.length X.length]) (hx : Blk w gx 75 #[.pointer (some ⟨g, 0, none⟩)]) (hi : i < X.length) (hn : X.length ≤ 9000) :
    Calls Tryd.prog 73 #[.int .i64 (i : Int), .pointer (some ⟨g4, 0, none⟩), .pointer (some ⟨gx, 0, none⟩)] w (Ret w (.bool (goneA X i))) := by
  obtain ⟨m, hm⟩ : ∃ m, X.length = m := ⟨_, rfl⟩
  have r0 := hr.cell (reachL_get (X := X) hi)
  have HG := Lib.hid (show goneA X i = (!reachB X i && decide (i < m - 1)) by unfold goneA; rw [hm])
  generalize goneA X i = ga at *
  generalize reachB X i = rb at *
  have z0 := hw.blk.cell 0
  have y0 := h4.cell 0
  have x0 := hx.cell 0
  simp only [List.getElem?_toArray, List.getElem?_cons_zero] at z0 y0 x0
  rw [hm] at z0 y0 hi hn
  clear hw hr h4 hx hm
  cases rb with
  | true =>
    go_enter Tryd.func73, Tryd.ntmps73
    go_wp2_with fail
    go_ret
    exact ⟨by rw [HG.out]; rfl, Below.refl _ _⟩
  | false =>
    obtain ⟨m1, rfl⟩ : ∃ m1, m = m1 + 1 := ⟨m - 1, by omega⟩
    have hd : decide ((i : Int) < ((m1 + 1 : Nat) : Int) - 1) = decide (i < m1 + 1 - 1) := by
      congr 1
      exact propext (by omega)
    obtain ⟨d, hdd⟩ : ∃ d, decide (i < m1 + 1 - 1) = d := ⟨_, rfl⟩
    rw [hdd] at hd HG
    cases d with
    | true =>
      have h3 : i < m1 := by have := of_decide_eq_true hdd; omega
      clear hd hdd
      go_enter Tryd.func73, Tryd.ntmps73
      go_wp2_with fail
      go_ret
      exact ⟨by rw [HG.out]; simp [h3], Below.refl _ _⟩
    | false =>
      have h3 : ¬ i < m1 := by have := of_decide_eq_false hdd; omega
      clear hd hdd
      go_enter Tryd.func73, Tryd.ntmps73
      go_wp2_with fail
      go_ret
      exact ⟨by rw [HG.out]; simp [h3], Below.refl _ _⟩
set_option maxRecDepth 100000 in
set_option maxHeartbeats 2000000 in
theorem once2_any (base g gl cl gc g5 gx i : Nat) (X : List Ins) (st : Int) (vc : Value) (w : World) (hw : PassW w base g gl X cl st vc) (hc : rowB w base gc X.length (cycL X)) (h5 : Blk w g5 33 #[.slice (some ⟨gc, 0, none⟩) X.length X.length]) (hx : Blk w gx 75 #[.pointer (some ⟨g, 0, none⟩)]) (hi : i < X.length) (hn : X.length ≤ 9000) :
    Calls Tryd.prog 74 #[.int .i64 (i : Int), .pointer (some ⟨gx, 0, none⟩), .pointer (some ⟨g5, 0, none⟩)] w (Ret w (.bool (goneB X i))) := by
  obtain ⟨m, hm⟩ : ∃ m, X.length = m := ⟨_, rfl⟩
  obtain ⟨x, hxi⟩ := at_some hi
  have hcy : (cycL X)[i]? = some (cycB X i) := by
    unfold cycL
    rw [List.getElem?_map, List.getElem?_range hi]
    rfl
  have r0 := hc.cell hcy
  have HG := Lib.hid (show goneB X i = ((x.op == 18 && x.a == (i : Int) + 1) && !cycB X i) by unfold goneB; rw [hxi])
  have hcell := (hw.rd.at_ hi).2
  rw [getElem_of? hi hxi] at hcell
  have c0 := hcell 0 _ rfl
  have c1 := hcell 1 _ rfl
  simp only [Nat.add_zero, Nat.zero_add] at c0 c1
  generalize goneB X i = ga at *
  generalize cycB X i = rb at *
  have z0 := hw.blk.cell 0
  have y0 := h5.cell 0
  have x0 := hx.cell 0
  simp only [List.getElem?_toArray, List.getElem?_cons_zero] at z0 y0 x0
  rw [hm] at z0 y0 hi hn
  clear hw hc h5 hx hm hcell hcy
  obtain ⟨b1, hb1⟩ : ∃ b, (x.op == 18) = b := ⟨_, rfl⟩
  obtain ⟨b2, hb2⟩ : ∃ b, (x.a == (i : Int) + 1) = b := ⟨_, rfl⟩
  rw [hb1, hb2] at HG
  cases b1 with
  | false =>
    go_enter Tryd.func74, Tryd.ntmps74
    go_wp2_with fail
    go_ret
    exact ⟨by rw [HG.out]; rfl, Below.refl _ _⟩
  | true =>
    cases b2 with
    | false =>
      go_enter Tryd.func74, Tryd.ntmps74
      go_wp2_with fail
      go_ret
      exact ⟨by rw [HG.out]; rfl, Below.refl _ _⟩
    | true =>
      go_enter Tryd.func74, Tryd.ntmps74
      go_wp2_with fail
      go_ret
      exact ⟨by rw [HG.out]; rfl, Below.refl _ _⟩
end Go.Proofs.YtpogngdddendiaaDoor
