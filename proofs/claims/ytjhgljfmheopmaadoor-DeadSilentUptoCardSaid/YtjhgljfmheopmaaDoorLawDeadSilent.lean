/- DeadSilent: whatever nodes are handed in, the law answers true. Bounds on the lengths. -/
import Derived.Test.YtjhgljfmheopmaaDoorLawDeadOwn
set_option linter.unusedVariables false
set_option linter.unusedSimpArgs false
namespace Go.Proofs.YtjhgljfmheopmaaDoor
open Go.RowKit

set_option maxRecDepth 100000 in
set_option maxHeartbeats 4000000 in
theorem deadsilent_walk (A : Option Addr) (cp : Nat) (L : List Nd) (aN aT' aM : Addr) (w : World) (hrd : RdL w 5 ndc A L) (hc : L.length ≤ cp) (hm : cp ≤ maxLen) (hA : A = none → cp = 0) (hok : ∀ x ∈ L, NdOk x) (hE : ErrW w aN aT' aM) :
    Calls Tryd.prog 14 #[.slice A L.length cp] w fun e w' => e = .returned (.bool true) ∧ Below w.heap.size w w' := by
  have FA := Lib.hid (first18_any aN aT' aM w hE)
  obtain ⟨m, hml⟩ : ∃ m, m = L.length := ⟨_, rfl⟩
  have hsl : SlRd w (.slice A m cp) L := by rw [hml]; exact ⟨A, cp, rfl, hrd, hc, hm, hA, trivial⟩
  rw [← hml] at hc ⊢
  have HM := Lib.hid hml
  have HOK := Lib.hid hok
  have HRD := Lib.hid hrd
  clear hml hok hrd hA
  go_enter Tryd.func14, Tryd.ntmps14
  go_wp2_with fail
  refine FA.out.mono ?_
  rintro e w1 ⟨rfl, hb⟩
  clear FA
  replace hsl := hsl.below hb
  replace hE := hE.below hb
  by_cases h60 : 60 < m
  · go_wp2_with fail
    go_ret
    exact ⟨rfl, hb⟩
  have h60' : decide ((60 : Int) < m) = false := decide_eq_false (by omega)
  have NW := Lib.hid (new_any 22 0 [120] (some ⟨w1.heap.size, 0, none⟩) 1 [L] (w1.alloc (.cells #[.slice A m cp] 25)) (KdRd.lit (vs := #[.slice A m cp]) (AllRd.one hsl)) (by simp) (by have := HM.out; simp; omega))
  have hba : Below w1.heap.size w1 (w1.alloc (.cells #[.slice A m cp] 25)) := (Below.refl _ _).alloc (Nat.le_refl _) _
  have hnd : ∀ x ∈ newL 22 0 [120] [L], NdOk x := by
    intro x hx
    simp only [newL, List.flatten_cons, List.flatten_nil, List.append_nil, List.mem_cons] at hx
    rcases hx with rfl | hx
    · exact ⟨by simp, by simp⟩
    · exact HOK.out x hx
  have hnl : (newL 22 0 [120] [L]).length ≤ 4000000 := by rw [newL_len]; have := HM.out; simp; omega
  have HND := Lib.hid hnd
  have HNL := Lib.hid hnl
  clear hnd hnl
  go_wp2_with fail
  refine NW.out.mono ?_
  rintro e w2 ⟨A2, c2, rfl, ho2, hb2⟩
  have hb12 := hba.trans (hb2.mono hba.size)
  have hE2 := hE.below hb12
  have CK := Lib.hid (check_v _ _ aN aT' aM w2 HNL.out HND.out (SlRd.of_own ho2 rfl) hE2)
  have hbw := hb.trans (hb12.mono hb.size)
  generalize newL 22 0 [120] [L] = N at *
  generalize N.length = nl at *
  clear NW ho2 hE2 hba hb2
  go_wp2_with fail
  refine CK.out.mono ?_
  rintro e w3 ⟨v3, rfl, hv3, hb3⟩
  have hb23 := hbw.trans (hb3.mono hbw.size)
  clear CK
  cases hmb : manyB N
  case true =>
    rw [hmb, if_pos rfl] at hv3
    subst hv3
    clear hmb
    go_wp2_with fail
    go_ret
    exact ⟨rfl, hb23⟩
  case false =>
  rw [hmb, if_neg Bool.noConfusion] at hv3
  cases hck : checkP N with
  | some z =>
    obtain ⟨i, nb⟩ := z
    rw [hck] at hv3
    obtain ⟨g, rfl, _⟩ := hv3
    clear hmb hck
    go_wp2_with fail
    go_ret
    exact ⟨rfl, hb23⟩
  | none =>
    rw [hck] at hv3
    obtain rfl : v3 = Value.nilIface := hv3
    have hrd3 := HRD.out.below hb23
    have SI := Lib.hid (silent_any A cp m L w3 HM.out hrd3 (by have := HM.out; omega))
    have HH := Lib.hid (fun (W : World) (hb : Below w3.heap.size w3 W) (hk : RdL W 1 intc (some ⟨W.heap.size - 1, 0, none⟩) [12]) => has_any A cp m L (some ⟨W.heap.size - 1, 0, none⟩) 1 1 [12] W HM.out rfl (hrd3.below hb) (by have := HM.out; omega) hk (by decide))
    have he : (L.any fun x => ([12] : List Int).contains x.kind) = L.any fun x => x.kind == 12 := by congr 1; funext x; rw [Bool.eq_iff_iff]; simp
    rw [he] at HH
    generalize (L.any fun x => x.kind == 12) = q at *
    clear hmb hck he hrd3
    go_wp2_with fail
    refine SI.out.mono ?_
    rintro e w4 ⟨rfl, hb4⟩
    have hb24 := hb23.trans (hb4.mono hb23.size)
    obtain ⟨W5, hW5⟩ : ∃ W5, W5 = w4.alloc (.cells #[.int .i64 12] 3) := ⟨_, rfl⟩
    have hb5 : Below w4.heap.size w4 W5 := by rw [hW5]; exact (Below.refl _ _).alloc (Nat.le_refl _) _
    have hsz : W5.heap.size - 1 = w4.heap.size := by rw [hW5, World.alloc]; simp
    have hB5 : Blk W5 w4.heap.size 3 #[.int .i64 12] := by rw [hW5]; exact Blk.new w4 _ _
    have z5 := hB5.cell 0
    simp only [List.getElem?_toArray, List.getElem?_cons_zero] at z5
    have hk5 : RdL W5 1 intc (some ⟨W5.heap.size - 1, 0, none⟩) [12] := by
      rw [hsz]
      intro k hk
      have hk0 : k = 0 := by simpa using hk
      subst hk0
      refine ⟨w4.heap.size, 0, rfl, hB5.lt, fun j u hu => ?_⟩
      cases j with
      | zero => simp only [intc, List.getElem_cons_zero, List.getElem?_cons_zero, Option.some.injEq] at hu; subst hu; simpa using z5
      | succ j => simp [intc] at hu
    have HC := Lib.hid (HH.out W5 (hb4.trans (hb5.mono hb4.size)) hk5)
    rw [hsz] at HC
    have hb25 := hb24.trans (hb5.mono hb24.size)
    clear SI HH hB5 z5 hk5 hsz
    cases q
    all_goals
      go_wp2_with fail
      rw [← hW5]
      refine HC.out.mono ?_
      rintro e w6 ⟨rfl, hb6⟩
      have hb26 := hb25.trans (hb6.mono hb25.size)
      go_wp2_with fail
      go_ret
      exact ⟨rfl, hb26⟩
theorem deadsilent_upto (A : Option Addr) (cp : Nat) (L : List Nd) (aN aT' aM : Addr) (w : World) (hrd : RdL w 5 ndc A L) (hc : L.length ≤ cp) (hm : cp ≤ maxLen) (hA : A = none → cp = 0) (hi : ∀ y ∈ L, NdIn y) (hb : L.length ≤ 1048576 ∧ ∀ y ∈ L, y.s.length ≤ 1048576) (hE : ErrW w aN aT' aM) :
    Calls Tryd.prog 14 #[.slice A L.length cp] w fun e w' => e = .returned (.bool true) ∧ Below w.heap.size w w' :=
  deadsilent_walk A cp L aN aT' aM w hrd hc hm hA (ndok_of hi hb.2) hE
end Go.Proofs.YtjhgljfmheopmaaDoor
