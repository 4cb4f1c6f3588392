/- The walks over core.Has (a closure called in a loop). Bounds on the lengths. -/
import Derived.Test.YthmeonimianoeaaDoorNode
import Derived.Test.YthmeonimianoeaaDoorCoreW4
import Derived.Deep.DeepCutAuto
import Derived.Outline
set_option linter.unusedVariables false
set_option linter.unusedSimpArgs false
namespace Go.Proofs.YthmeonimianoeaaDoor
open Go.RowKit

theorem has1_any (x : Nd) (Bx : Nat) (Ak : Option Addr) (ck : Nat) (K : List Int) (w : World) (hb : w.cell? ⟨Bx, 0, none⟩ = some (.slice Ak K.length ck)) (hk : RdL w 1 intc Ak K) (hl : K.length ≤ 1000000) :
    Calls Tryd.prog 153 #[.agg #[.int .i64 x.kind, .int .i64 x.n, .int .i64 x.k, .int .i64 x.size, .string ⟨x.s.toArray⟩], .pointer (some ⟨Bx, 0, none⟩)] w (Ret w (.bool (K.contains x.kind))) := by
  obtain ⟨W0, hW0⟩ : ∃ W0, W0 = w.alloc (.cells #[.int .i64 x.kind, .int .i64 x.n, .int .i64 x.k, .int .i64 x.size, .string ⟨x.s.toArray⟩] 40) := ⟨_, rfl⟩
  have hb0 : Below w.heap.size w W0 := by rw [hW0]; exact (Below.refl _ _).alloc (Nat.le_refl _) _
  have hB0 : Blk W0 w.heap.size 40 #[.int .i64 x.kind, .int .i64 x.n, .int .i64 x.k, .int .i64 x.size, .string ⟨x.s.toArray⟩] := by rw [hW0]; exact Blk.new w _ _
  have z0 := hB0.cell 0
  simp only [List.getElem?_toArray, List.getElem?_cons_zero] at z0
  have hbk := cell_keep hb0 hb
  have HC := Lib.hid (contains_any Ak ck K x.kind W0 (hk.below hb0) hl)
  clear hb hk hB0
  generalize K.contains x.kind = q at *
  go_enter Tryd.func153, Tryd.ntmps153
  go_upto_region 1 with (fail)
  rw [← hW0]
  clear hW0
  go_wp2_with fail
  refine HC.out.mono ?_
  rintro e w1 ⟨rfl, rfl⟩
  go_wp2_with fail
  go_ret
  exact ⟨rfl, hb0⟩
def IdxfRet (b : Bool) (w : World) (e : Ending) (w' : World) : Prop := ∃ r : Int, e = .returned (.int .i64 r) ∧ decide (0 ≤ r) = b ∧ Below w.heap.size w w'

set_option maxHeartbeats 2000000 in
theorem indexf_any (A : Option Addr) (c : Nat) (L : List Nd) (Bx : Nat) (Ak : Option Addr) (ck : Nat) (K : List Int) (w : World) (hrd : RdL w 5 ndc A L) (hL : L.length ≤ 4000000) (hb : w.cell? ⟨Bx, 0, none⟩ = some (.slice Ak K.length ck)) (hk : RdL w 1 intc Ak K) (hl : K.length ≤ 1000000) :
    Calls Tryd.prog 159 #[.slice A L.length c, .func (.func 153) #[] #[.pointer (some ⟨Bx, 0, none⟩)]] w (IdxfRet (L.any fun x => K.contains x.kind) w) := by
  obtain ⟨m, hm⟩ : ∃ m, m = L.length := ⟨_, rfl⟩
  rw [← hm] at hL ⊢
  have HM := Lib.hid hm
  have HB := Lib.hid hb
  have HK := Lib.hid hk
  clear hm hb hk
  go_enter Tryd.func159, Tryd.ntmps159
  go_wp2_with fail
  go_loopw [8] (fun i wr => ∃ k : Nat, k ≤ m ∧ i = .int .i64 k ∧ Below w.heap.size w wr ∧ Hid ((L.take k).any (fun x => K.contains x.kind) = false)) (fun i _ => m - (intOf i).toNat)
  case atStart => exact ⟨0, Nat.zero_le _, rfl, Below.refl _ _, Lib.hid (by simp)⟩
  case round =>
    obtain ⟨k, hk, rfl, hbr, H⟩ := hrel
    by_cases hlt : k < m
    · have hkL : k < L.length := by rw [← HM.out]; exact hlt
      obtain ⟨b, o, rfl, _, hcell⟩ := (hrd.below hbr) k hkL
      obtain ⟨x, hx⟩ : ∃ x, x = L[k] := ⟨_, rfl⟩
      have HT := Lib.hid (show L.take (k + 1) = L.take k ++ [x] by rw [List.take_succ_eq_append_getElem hkL, hx])
      rw [← hx] at hcell
      have c0 := hcell 0 _ rfl
      have c1 := hcell 1 _ rfl
      have c2 := hcell 2 _ rfl
      have c3 := hcell 3 _ rfl
      have c4 := hcell 4 _ rfl
      simp only [Nat.add_zero] at c0
      have HX := Lib.hid (show x ∈ L by rw [hx]; exact List.getElem_mem _)
      have HC := Lib.hid (has1_any x Bx Ak ck K wr (cell_keep hbr HB.out) (HK.out.below hbr) hl)
      clear hcell hx hkL
      obtain ⟨q, hq⟩ : ∃ q, K.contains x.kind = q := ⟨_, rfl⟩
      rw [hq] at HC
      have HQ := Lib.hid hq
      clear hq
      cases q
      · go_wp2_with fail
        refine HC.out.mono ?_
        rintro e w1 ⟨rfl, hb1⟩
        have hb2 := hbr.trans (hb1.mono hbr.size)
        clear c0 c1 c2 c3 c4
        go_wp2_with fail
        go_roundw
        case rel => exact ⟨k + 1, by omega, by go_num, hb2, Lib.hid (by rw [HT.out, List.any_append, H.out, Bool.false_or, List.any_cons, List.any_nil, Bool.or_false]; exact HQ.out)⟩
        case measure => simp [intOf]; omega
      · have HT2 := Lib.hid (show L.any (fun x => K.contains x.kind) = true from List.any_eq_true.2 ⟨x, HX.out, HQ.out⟩)
        go_wp2_with fail
        refine HC.out.mono ?_
        rintro e w1 ⟨rfl, hb1⟩
        have hb2 := hbr.trans (hb1.mono hbr.size)
        clear c0 c1 c2 c3 c4
        go_wp2_with fail
        go_ret
        exact ⟨k, rfl, by rw [HT2.out]; exact decide_eq_true (by omega), hb2⟩
    · obtain rfl : k = m := by omega
      have HF := Lib.hid (show L.any (fun x => K.contains x.kind) = false by
        have h := H.out
        rwa [List.take_of_length_le (by rw [← HM.out]; exact Nat.le_refl _)] at h)
      clear H
      go_wp2_with fail
      go_ret
      exact ⟨-1, rfl, by rw [HF.out]; rfl, hbr⟩
theorem containsf_any (A : Option Addr) (c m : Nat) (L : List Nd) (Bx : Nat) (Ak : Option Addr) (ck : Nat) (K : List Int) (w : World) (hm : m = L.length) (hrd : RdL w 5 ndc A L) (hL : L.length ≤ 4000000) (hb : w.cell? ⟨Bx, 0, none⟩ = some (.slice Ak K.length ck)) (hk : RdL w 1 intc Ak K) (hl : K.length ≤ 1000000) :
    Calls Tryd.prog 152 #[.slice A m c, .func (.func 153) #[] #[.pointer (some ⟨Bx, 0, none⟩)]] w (Ret w (.bool (L.any fun x => K.contains x.kind))) := by
  have HI := Lib.hid (indexf_any A c L Bx Ak ck K w hrd hL hb hk hl)
  rw [← hm] at HI
  generalize L.any (fun x => K.contains x.kind) = B at *
  clear hm hrd hb hk
  go_enter Tryd.func152, Tryd.ntmps152
  go_wp2_with fail
  refine HI.out.mono ?_
  rintro e w1 ⟨r, rfl, hr, hb1⟩
  go_wp2_with fail
  go_ret
  exact ⟨rfl, hb1⟩
theorem has_any (A : Option Addr) (c m : Nat) (L : List Nd) (Ak : Option Addr) (ck kl : Nat) (K : List Int) (w : World) (hm : m = L.length) (hkl : kl = K.length) (hrd : RdL w 5 ndc A L) (hL : L.length ≤ 4000000) (hk : RdL w 1 intc Ak K) (hl : K.length ≤ 1000000) :
    Calls Tryd.prog 134 #[.slice A m c, .slice Ak kl ck] w (Ret w (.bool (L.any fun x => K.contains x.kind))) := by
  obtain ⟨W0, hW0⟩ : ∃ W0, W0 = w.alloc (.cells #[.slice Ak kl ck] 41) := ⟨_, rfl⟩
  have hb0 : Below w.heap.size w W0 := by rw [hW0]; exact (Below.refl _ _).alloc (Nat.le_refl _) _
  have hB0 : Blk W0 w.heap.size 41 #[.slice Ak kl ck] := by rw [hW0]; exact Blk.new w _ _
  have z0 := hB0.cell 0
  simp only [List.getElem?_toArray, List.getElem?_cons_zero] at z0
  have HC := Lib.hid (containsf_any A c m L w.heap.size Ak ck K W0 hm (hrd.below hb0) hL (by rw [← hkl]; exact z0) (hk.below hb0) hl)
  have hmf : ∀ (fn : Fn) (first cap : Array Value) (w : World), (Instr.makeFunc fn first cap).run Tryd.prog w = .ok (.func fn first cap) w := fun _ _ _ _ => rfl
  generalize L.any (fun x => K.contains x.kind) = B at *
  clear hrd hk hB0 hm hkl
  go_enter Tryd.func134, Tryd.ntmps134
  go_upto_region 1 with (fail)
  rw [← hW0]
  clear hW0
  go_wp2_with fail
  refine HC.out.mono ?_
  rintro e w1 ⟨rfl, hb1⟩
  have hb2 := hb0.trans (hb1.mono hb0.size)
  go_wp2_with fail
  go_ret
  exact ⟨rfl, hb2⟩

end Go.Proofs.YthmeonimianoeaaDoor
