/- The walk over chapter 23's examples: they hold. What the package-level errors hold is a hypothesis. -/
import Derived.Test.YthmeonimianoeaaDoorGenE1
import Derived.Test.YthmeonimianoeaaDoorGenH
import Derived.Test.YthmeonimianoeaaDoorGF
import Derived.Test.YthmeonimianoeaaDoorCoreF
set_option linter.unusedVariables false
set_option linter.unusedSimpArgs false
namespace Go.Proofs.YthmeonimianoeaaDoor
open Go.RowKit

theorem compile_v (v : Value) (t : Tr) (lm : Nat) (aN aT aM : Addr) (w : World) (hL : (flat t).length ≤ 1100) (hok : ∀ x ∈ flat t, NdOk x) (hsl : SlRd w v (flat t)) (hE : ErrW w aN aT aM) (hgood : okT 30 false t = true) (hlow : DoLow t lm) :
    Calls Tryd.prog 12 #[v] w (CompLow t lm w) := by
  have hsl' := hsl
  obtain ⟨A, c, rfl, hrd, _⟩ := hsl'
  exact compile_low A c t lm aN aT aM w hL hok hrd hsl hE hgood hlow
/-- A code put into a block of its own: what it finds there. -/
theorem code_put (w : World) (a b : Value) : 
    (w.alloc (.cells #[a, b] 30)).cell? ⟨w.heap.size, 0, none⟩ = some a ∧
    (w.alloc (.cells #[a, b] 30)).cell? ⟨w.heap.size, 1, none⟩ = some b ∧
    Below w.heap.size w (w.alloc (.cells #[a, b] 30)) := by
  have h0 := Blk.new w 30 #[a, b]
  have q0 := h0.cell 0
  have q1 := h0.cell 1
  simp only [List.getElem?_toArray, List.getElem?_cons_zero, List.getElem?_cons_succ] at q0 q1
  exact ⟨q0, q1, (Below.refl _ _).alloc (Nat.le_refl _) _⟩
/-- What is known of a code in memory, of one instruction and more. -/
theorem code_rd {A : Option Addr} {c base : Nat} {X : List Ins} {w : World} (h : w.ownsRow base 53 4 (.slice A X.length c) X.length (X.flatMap insc)) : RdL w 4 insc A X := by
  obtain ⟨A', c', he, _, _, hr, _⟩ := RdL.of_own insc_len h rfl
  injection he with he _ _
  rw [he]
  exact hr
theorem code_last {A : Option Addr} {X : List Ins} {w : World} {k : Nat} (h : RdL w 4 insc A X) (hk : X.length = k + 1) (hop : ∀ h : X.length - 1 < X.length, X[X.length - 1].op = 41) : ∃ b o, A = some ⟨b, o, none⟩ ∧ b < w.heap.size ∧ w.cell? ⟨b, o + k * 4, none⟩ = some (.int .i64 41) := by
  obtain ⟨b, o, hA, hlt, hc⟩ := h k (by omega)
  have c0 := hc 0 _ rfl
  have ho := hop (by omega)
  have he : X.length - 1 = k := by omega
  simp only [he] at ho
  rw [ho, Nat.add_zero] at c0
  exact ⟨b, o, hA, hlt, c0⟩

theorem echo_height : heightT echoT = 2 := by kernel_rfl
theorem echo_low : DoLow echoT 2 := dd21x 21 rfl 0 [] [.mk 1 0 [101, 99, 104, 111] [], .mk 1 0 [97] []] (by decide +kernel) (by decide) (fun t ht => (gen_all _ t 30 (Nat.le_refl _)).1 (by
  simp only [List.mem_cons, List.not_mem_nil, or_false] at ht
  rcases ht with rfl | rfl <;> kernel_rfl)) (by decide)
set_option maxRecDepth 100000 in
set_option maxHeartbeats 4000000 in
theorem first23_any (aN aT aM : Addr) (w : World) (hS : ErrW w aN aT aM) : Calls Tryd.prog 8 #[] w (Ret w (.bool true)) := by
  have CC := Lib.hid (fun v W h1 hE => compile_v v echoT 2 aN aT aM W (of_decide_eq_true (by kernel_rfl)) (ok_nodes' (by kernel_rfl)) h1 hE (by kernel_rfl) echo_low)
  have HS := Lib.hid hS
  clear hS
  go_enter Tryd.func8, Tryd.ntmps8
  go_wp2_with fail
  refine (litT_any [101, 99, 104, 111] _).mono ?_
  rintro e w1 ⟨A1, n1, c1, rfl, o1, hb1⟩
  have s1 := o1.rd
  clear o1
  have hb := hb1
  go_wp2_with fail
  refine (litT_any [97] _).mono ?_
  rintro e w2 ⟨A2, n2, c2, rfl, o2, hb2⟩
  have s2 := o2.rd
  clear o2
  replace s1 := s1.below hb2
  replace hb := hb.trans (hb2.mono hb.size)
  clear hb1 hb2
  go_wp2_with fail
  refine (newL_any 21 0 [] _ 2 2 [.mk 1 0 [101, 99, 104, 111] [], .mk 1 0 [97] []] _ (AllRd.two s1 s2) rfl (of_decide_eq_true (by kernel_rfl))).mono ?_
  rintro e w3 ⟨A3, n3, c3, rfl, o3, hb3⟩
  have s3 := o3.rd
  clear o3
  replace hb := hb.trans (hb3.mono hb.size)
  clear s1 s2 hb3
  go_wp2_with fail
  refine (CC.out _ _ s3 (HS.out.below hb)).mono ?_
  rintro e w4 ⟨A, c, X, st, rfl, hb4, ho, hg, hlo⟩
  obtain rfl : st = 2 := by have := hg.st; rw [echo_height] at this; omega
  replace hb := hb.trans (hb4.mono hb.size)
  have hrd := code_rd ho
  obtain ⟨k, hk⟩ : ∃ k, X.length = k + 1 := ⟨X.length - 1, by have := hg.pos; omega⟩
  have hl := hg.len
  have h24 : (flat echoT).length = 3 := by kernel_rfl
  rw [h24] at hl
  obtain ⟨b, o, rfl, hlt, c41⟩ := code_last hrd hk hg.last
  have HX := Lib.hid (show ∀ W, Below w4.heap.size w4 W → Calls Tryd.prog 13 #[.agg #[.slice (some ⟨b, o, none⟩) (k + 1) c, .int .i64 2]] W (Ret W .nilIface) from fun W hW => by
    have := ccheck_ok (some ⟨b, o, none⟩) c 2 X W (by omega) (by omega) (by omega) hg.ok hg.last (hrd.below hW)
    rw [hk] at this
    exact this)
  unfold codeV
  rw [hk]
  have hk9 : k ≤ 30 := by omega
  obtain ⟨r0, r1, hb7⟩ := code_put w4 (.slice (some ⟨b, o, none⟩) (k + 1) c) (.int .i64 2)
  have c47 := cell_keep hb7 c41
  have HB := Lib.hid (hb.trans (hb7.mono hb.size))
  have HX7 := Lib.hid (HX.out _ hb7)
  have n2 : ((2 : Nat) : Int) = 2 := rfl
  rw [n2]
  have kk : (((k + 1 : Nat) : Int) - 1) = (k : Int) := by omega
  clear hb hb4 ho hg hrd hl h24 CC s3 hlo c41 hk n2 HX hb7
  go_upto_region 2 with (fail)
  generalize w4.alloc (.cells #[.slice (some ⟨b, o, none⟩) (k + 1) c, .int .i64 2] 30) = w7 at *
  generalize w4.heap.size = g at *
  go_wp2_with fail
  refine HX7.out.mono ?_
  rintro e w8 ⟨rfl, hb8⟩
  go_wp2_with fail
  go_ret
  exact ⟨rfl, HB.out.trans (hb8.mono HB.out.size)⟩
end Go.Proofs.YthmeonimianoeaaDoor
