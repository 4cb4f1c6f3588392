/- The walk over the laws' own first: the chapter's examples hold. What the package-level errors hold is a hypothesis. -/
import Derived.Test.YtlhpflilpdceiaaDoorScanWF
set_option linter.unusedVariables false
set_option linter.unusedSimpArgs false
namespace Go.Proofs.YtlhpflilpdceiaaDoor
open Go.RowKit

def exA : List CCmd := [⟨0, [⟨0, false, [⟨1, 0, 0, [115, 101, 116]⟩]⟩, ⟨4, false, [⟨1, 4, 0, [120]⟩]⟩, ⟨6, true, [⟨1, 7, 0, [97, 32, 98]⟩]⟩]⟩, ⟨13, [⟨13, false, [⟨1, 13, 0, [112, 117, 116]⟩]⟩, ⟨17, false, [⟨2, 18, 0, [120]⟩, ⟨1, 20, 0, [32]⟩, ⟨3, 21, 0, [121]⟩]⟩]⟩]
theorem exA_eq : scanL 0 [115, 101, 116, 32, 120, 32, 123, 97, 32, 98, 125, 59, 32, 112, 117, 116, 32, 34, 36, 120, 32, 91, 121, 93, 34] [] [] = .ok exA := by kernel_rfl
theorem exB_eq : scanL 0 [123, 97, 125, 98] [] [] = .err 7 3 := by kernel_rfl
def exC : List CCmd := [⟨0, [⟨0, false, [⟨1, 0, 0, [97]⟩]⟩, ⟨2, false, [⟨3, 2, 0, [98, 32, 123, 93, 125, 32, 99]⟩]⟩]⟩]
theorem exC_eq : scanL 0 [97, 32, 91, 98, 32, 123, 93, 125, 32, 99, 93] [] [] = .ok exC := by kernel_rfl
theorem exD_eq : braceT [97, 125] = ([], false) := by kernel_rfl
theorem exE_eq : quoteT [97, 32, 98] = [34, 97, 32, 98, 34] := by kernel_rfl
theorem exF_eq : quoteT [97] = [97] := by kernel_rfl
/-- The k-th of the commands, words: where it lies. -/
theorem RdC.at_ {w : World} {v : Value} {l : List CCmd} (h : RdC w v l) {k : Nat} (hk : k < l.length) : ∃ b o c vw, v = .slice (some ⟨b, o, none⟩) l.length c ∧ w.cell? ⟨b, o + k * 2, none⟩ = some (.int .i64 l[k].pos) ∧ w.cell? ⟨b, o + k * 2 + 1, none⟩ = some vw ∧ RdW w vw l[k].words := by
  obtain ⟨A, c, vs, rfl, hvs, hrd, hall, -⟩ := h
  have hlen : vs.length = l.length := by rw [← hvs, List.length_map]
  obtain ⟨b, o, rfl, -⟩ := hrd.addr (by omega)
  have hk' : k < vs.length := by omega
  obtain ⟨h0, h1⟩ := RdL.ccmds hrd hk'
  have hf : vs[k].1 = l[k] := by
    subst hvs
    rw [List.getElem_map]
  exact ⟨b, o, c, vs[k].2, rfl, by rw [← hf]; exact h0, h1, by rw [← hf]; exact hall _ (List.getElem_mem hk')⟩
theorem RdW.at_ {w : World} {v : Value} {l : List CWord} (h : RdW w v l) {k : Nat} (hk : k < l.length) : ∃ b o c vp, v = .slice (some ⟨b, o, none⟩) l.length c ∧ w.cell? ⟨b, o + k * 3, none⟩ = some (.int .i64 l[k].pos) ∧ w.cell? ⟨b, o + k * 3 + 1, none⟩ = some (.bool l[k].braced) ∧ w.cell? ⟨b, o + k * 3 + 2, none⟩ = some vp ∧ RdP w vp l[k].parts := by
  obtain ⟨A, c, vs, rfl, hvs, hrd, hall, -⟩ := h
  have hlen : vs.length = l.length := by rw [← hvs, List.length_map]
  obtain ⟨b, o, rfl, -⟩ := hrd.addr (by omega)
  have hk' : k < vs.length := by omega
  obtain ⟨h0, h1, h2⟩ := RdL.cwords hrd hk'
  have hf : vs[k].1 = l[k] := by
    subst hvs
    rw [List.getElem_map]
  exact ⟨b, o, c, vs[k].2, rfl, by rw [← hf]; exact h0, by rw [← hf]; exact h1, h2, by rw [← hf]; exact hall _ (List.getElem_mem hk')⟩
set_option maxRecDepth 100000 in
set_option maxHeartbeats 4000000 in
theorem first14_any (Ls : List Addr) (w : World) (hE : SenW w Ls) : Calls Tryd.prog 10 #[] w (Ret w (.bool true)) := by
  have HE := Lib.hid hE
  have H1 := Lib.hid (scan_any { data := #[115, 101, 116, 32, 120, 32, 123, 97, 32, 98, 125, 59, 32, 112, 117, 116, 32, 34, 36, 120, 32, 91, 121, 93, 34] } Ls w hE (by decide))
  rw [show ({ data := #[115, 101, 116, 32, 120, 32, 123, 97, 32, 98, 125, 59, 32, 112, 117, 116, 32, 34, 36, 120, 32, 91, 121, 93, 34] } : ByteArray).data.toList = [115, 101, 116, 32, 120, 32, 123, 97, 32, 98, 125, 59, 32, 112, 117, 116, 32, 34, 36, 120, 32, 91, 121, 93, 34] from rfl, exA_eq] at H1
  have H2 := Lib.hid (fun (W : World) (hb : Below w.heap.size w W) => scan_any { data := #[123, 97, 125, 98] } Ls W (hE.below hb) (by decide))
  rw [show ({ data := #[123, 97, 125, 98] } : ByteArray).data.toList = [123, 97, 125, 98] from rfl, exB_eq] at H2
  have H3 := Lib.hid (fun (W : World) (hb : Below w.heap.size w W) => scan_any { data := #[97, 32, 91, 98, 32, 123, 93, 125, 32, 99, 93] } Ls W (hE.below hb) (by decide))
  rw [show ({ data := #[97, 32, 91, 98, 32, 123, 93, 125, 32, 99, 93] } : ByteArray).data.toList = [97, 32, 91, 98, 32, 123, 93, 125, 32, 99, 93] from rfl, exC_eq] at H3
  have H4 := Lib.hid (fun (W : World) (hb : Below w.heap.size w W) => cbrace_any { data := #[97, 125] } Ls W (hE.below hb) (by decide))
  rw [show ({ data := #[97, 125] } : ByteArray).data.toList = [97, 125] from rfl, brV, exD_eq] at H4
  have H5 := Lib.hid (fun (W : World) (hb : Below w.heap.size w W) => cquote_any { data := #[97, 32, 98] } Ls W (hE.below hb) (by decide))
  rw [show ({ data := #[97, 32, 98] } : ByteArray).data.toList = [97, 32, 98] from rfl, exE_eq] at H5
  have H6 := Lib.hid (fun (W : World) (hb : Below w.heap.size w W) => cquote_any { data := #[97] } Ls W (hE.below hb) (by decide))
  rw [show ({ data := #[97] } : ByteArray).data.toList = [97] from rfl, exF_eq] at H6
  have HPL := Lib.hid (fun W => placed_any 107 3 W (by decide))
  clear hE
  go_enter Tryd.func10, Tryd.ntmps10
  go_wp2_with fail
  refine H1.out.mono ?_
  rintro e w1 ⟨v1, rfl, hO1, hb1⟩
  have HV1 := Lib.hid hO1.rd
  have hb := hb1
  clear hO1 hb1 H1
  go_wp2_with fail
  refine (H2.out _ hb).mono ?_
  rintro e w2 ⟨v2, rfl, hE2, hb2⟩
  have HV2 := Lib.hid hE2.err
  replace HV1 := Lib.hid (HV1.out.below hb2)
  replace hb := hb.trans (hb2.mono hb.size)
  clear hE2 hb2 H2
  go_wp2_with fail
  refine (H3.out _ hb).mono ?_
  rintro e w3 ⟨v3, rfl, hO3, hb3⟩
  have HV3 := Lib.hid hO3.rd
  replace HV1 := Lib.hid (HV1.out.below hb3)
  replace HV2 := Lib.hid (HV2.out.below hb3)
  replace hb := hb.trans (hb3.mono hb.size)
  clear hO3 hb3 H3
  go_wp2_with fail
  refine (H4.out _ hb).mono ?_
  rintro e w4 ⟨rfl, hb4⟩
  replace HV1 := Lib.hid (HV1.out.below hb4)
  replace HV2 := Lib.hid (HV2.out.below hb4)
  replace HV3 := Lib.hid (HV3.out.below hb4)
  replace hb := hb.trans (hb4.mono hb.size)
  clear hb4 H4
  obtain ⟨bl, ol, cl, w0v, hv1, -, a1, hw0⟩ := HV1.out.at_ (k := 0) (by decide)
  obtain ⟨bl', ol', cl', w1v, hv1', -, a2, hw1⟩ := HV1.out.at_ (k := 1) (by decide)
  have hv1'' := hv1.symm.trans hv1'
  simp only [Value.slice.injEq, Option.some.injEq, Addr.mk.injEq, and_true, true_and] at hv1''
  obtain ⟨⟨rfl, rfl⟩, rfl⟩ := hv1''
  subst hv1
  obtain ⟨bw, ow, cw, p0v, hw0e, -, a3, -, -⟩ := hw0.at_ (k := 2) (by decide)
  subst hw0e
  obtain ⟨bx, ox, cx, p1v, hw1e, -, -, a4, hp1⟩ := hw1.at_ (k := 1) (by decide)
  subst hw1e
  obtain ⟨Ap, cp, hp1e, -⟩ := hp1
  subst hp1e
  obtain ⟨bm, om, cm, m0v, hv3, -, b1, hm0⟩ := HV3.out.at_ (k := 0) (by decide)
  subst hv3
  obtain ⟨bn, on, cn, q0v, hm0e, -, -, b2, hq0⟩ := hm0.at_ (k := 1) (by decide)
  subst hm0e
  obtain ⟨Aq, cq, hq0e, hqr, -⟩ := hq0
  subst hq0e
  obtain ⟨bq, oq, hAq, -⟩ := hqr.addr (by decide)
  subst hAq
  obtain ⟨-, -, -, b3⟩ := RdL.cparts hqr (k := 0) (by decide)
  simp [exA] at a1 a2 a3 a4
  simp [exC] at b1 b2 b3
  clear hw0 hw1 hm0 hqr hv1'
  go_wp2_with fail
  refine (HPL.out _).mono ?_
  rintro e w5 ⟨u, rfl, hF, hb5⟩
  replace HV2 := Lib.hid (HV2.out.below hb5)
  replace hb := hb.trans (hb5.mono hb.size)
  replace b1 := cell_keep hb5 b1
  replace b2 := cell_keep hb5 b2
  replace b3 := cell_keep hb5 b3
  have HSM := Lib.hid (seesame_any Ls _ v2 u _ 107 _ [3] (HE.out.below hb) HV2.out hF (by decide))
  rw [show ((100 + ((7 : Nat) : Int) == 107) && SameI [((3 : Nat) : Int)] [3]) = true by decide] at HSM
  clear hb5 hF HPL a1 a2 a3 a4
  go_wp2_with fail
  refine HSM.out.mono ?_
  rintro e w6 ⟨rfl, hb6⟩
  replace hb := hb.trans (hb6.mono hb.size)
  replace b1 := cell_keep hb6 b1
  replace b2 := cell_keep hb6 b2
  replace b3 := cell_keep hb6 b3
  clear hb6 HSM
  go_wp2_with fail
  refine (H5.out _ hb).mono ?_
  rintro e w7 ⟨rfl, hb7⟩
  replace hb := hb.trans (hb7.mono hb.size)
  clear hb7 b1 b2 b3
  go_wp2_with fail
  refine (H6.out _ hb).mono ?_
  rintro e w8 ⟨rfl, hb8⟩
  go_wp2_with fail
  go_ret
  exact ⟨rfl, hb.trans (hb8.mono hb.size)⟩
end Go.Proofs.YtlhpflilpdceiaaDoor
