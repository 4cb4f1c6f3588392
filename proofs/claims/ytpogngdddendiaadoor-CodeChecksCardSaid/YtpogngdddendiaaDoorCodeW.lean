/- The walk over the law's made: a code. A bound on the length. -/
import Derived.Test.YtpogngdddendiaaDoorCodeV
import Derived.Test.YtpogngdddendiaaDoorPh
import Derived.Test.YtpogngdddendiaaDoorCodeN
set_option linter.unusedVariables false
set_option linter.unusedSimpArgs false
namespace Go.Proofs.YtpogngdddendiaaDoor
open Go.RowKit

theorem own_set_blk {w : World} {base : Nat} {e t : TypeId} {sz n : Nat} {v : Value} {xs : List Value} {cs : Array Value} {g : Nat} (h : w.ownsRow base e sz v n xs) (hB : Blk w g t cs) (ht : t ≠ e) (i : Nat) (u : Value) : (w.setCell ⟨g, i, none⟩ u).ownsRow base e sz v n xs := by
  refine ⟨h.1, ?_⟩
  rcases h.2 with hn | ⟨g', cap, cur, rfl, hb', hg, rest⟩
  · exact .inl hn
  · refine .inr ⟨g', cap, cur, rfl, hb', (Below.heap_setCell _ _ _ _ (fun e' => ht ?_)).trans hg, rest⟩
    have e2 : g' = g := e'
    subst e2
    unfold Blk at hB
    rw [hg] at hB
    injection hB with hB
    injection hB with h1 h2 h3
    exact h2.symm
theorem own_low {w w' : World} {base : Nat} {e : TypeId} {sz n : Nat} {v : Value} {xs : List Value} (h : w.ownsRow base e sz v n xs) (hb : Below w.heap.size w w') : w'.ownsRow base e sz v n xs := by
  refine ⟨h.1, ?_⟩
  rcases h.2 with hn | ⟨g', cap, cur, rfl, hb', hg, rest⟩
  · exact .inl hn
  · exact .inr ⟨g', cap, cur, rfl, hb', (hb.block g' (Array.getElem?_eq_some_iff.1 hg).1).trans hg, rest⟩
def mmI (wi : World) (g B j : Nat) (st : Int) (old : Value) (xs : List Value) (x : Ins) : List Value → World → Prop
  | [], y => Below wi.heap.size wi y
  | [m], y => ∃ wk, m = .slice (some ⟨wk.heap.size, 0, none⟩) 1 1 ∧ y = wk.alloc (.cells #[.int .i64 x.op, .int .i64 x.a, .int .i64 x.b, .string ⟨x.s.toArray⟩] 36) ∧ Below wi.heap.size wi wk
  | [_, v], y => ∃ A4 c4, v = .slice A4 (j + 1) c4 ∧ y.ownsRow B 36 4 v (j + 1) (xs ++ insc x) ∧ Below B wi y ∧ Blk y g 29 #[old, .int .i64 st] ∧ Blk y B 29 #[.slice none 0 0, .int .i64 0]
  | [_, v, _], y => ∃ A4 c4, v = .slice A4 (j + 1) c4 ∧ y.ownsRow B 36 4 v (j + 1) (xs ++ insc x) ∧ Below B wi y ∧ Blk y g 29 #[v, .int .i64 st] ∧ Blk y B 29 #[.slice none 0 0, .int .i64 0]
  | _, _ => False
theorem mmI_old {wi : World} {g B j : Nat} {st : Int} {old : Value} {xs : List Value} {x : Ins} : ∀ (kv : List Value) (y : World), kv.length ≤ 1 → mmI wi g B j st old xs x kv y → Below wi.heap.size wi y := by
  intro kv y hl h
  match kv, hl, h with
  | [], _, h => exact h
  | [v1], _, ⟨wk, _, he, hb⟩ =>
    subst he
    exact hb.trans ((Below.refl _ _).alloc hb.size _)
def CodeRet (B : Nat) (X : List Ins) (st : Int) (w : World) (e : Ending) (w' : World) : Prop := ∃ A c, e = .returned (.agg #[.slice A X.length c, .int .i64 st]) ∧ RdL w' 4 insc A X ∧ Below w.heap.size w w'
theorem own_insc {w : World} {base n c : Nat} {A : Option Addr} {L : List Ins} (h : w.ownsRow base 36 4 (.slice A n c) n (L.flatMap insc)) (hn : n = L.length) : RdL w 4 insc A L := by
  obtain ⟨A', c', h1, _, _, h2, _⟩ := RdL.of_own (enc := insc) (sz := 4) (fun _ => rfl) h hn
  injection h1 with h1 _ _
  subst h1
  exact h2
set_option maxRecDepth 100000 in
set_option maxHeartbeats 4000000 in
theorem made22_any (X : List Ins) (A : Option Addr) (c : Nat) (st : Int) (w : World) (hn : X.length ≤ 9000) (hrd : RdL w 4 insc A X) :
    Calls Tryd.prog 24 #[.slice A X.length c, .int .i64 st] w (CodeRet w.heap.size X st w) := by
  obtain ⟨i0, hi, hz0, hz1, hz2⟩ := info_parts infoIns
  obtain ⟨m, hm⟩ : ∃ m, X.length = m := ⟨_, rfl⟩
  have HM := Lib.hid hm
  have HRD := Lib.hid hrd
  obtain ⟨W1, hW1⟩ : ∃ W1, W1 = w.alloc (.cells #[.slice none 0 0, .int .i64 0] 29) := ⟨_, rfl⟩
  obtain ⟨W2, hW2⟩ : ∃ W2, W2 = W1.alloc (.cells #[.slice none 0 0, .int .i64 st] 29) := ⟨_, rfl⟩
  have hsz1 : W1.heap.size = w.heap.size + 1 := by rw [hW1]; exact Array.size_push _
  have hB1 : Blk W1 w.heap.size 29 #[.slice none 0 0, .int .i64 0] := by rw [hW1]; exact Blk.new w _ _
  have hB2 : Blk W2 (w.heap.size + 1) 29 #[.slice none 0 0, .int .i64 st] := by rw [hW2, ← hsz1]; exact Blk.new W1 _ _
  have hb1 : Below w.heap.size w W1 := by rw [hW1]; exact (Below.refl _ _).alloc (Nat.le_refl _) _
  have hb2 : Below w.heap.size w W2 := by rw [hW2]; exact hb1.alloc (by omega) _
  have hB1' : Blk W2 w.heap.size 29 #[.slice none 0 0, .int .i64 0] := by rw [hW2]; exact hB1.below ((Below.refl _ _).alloc (Nat.le_refl _) _)
  rw [hm] at hn
  have HB2 := Lib.hid hB2
  have HB1 := Lib.hid hB1'
  have HW2 := Lib.hid hb2
  unfold CodeRet
  rw [hm]
  clear hrd hm hB2 hB1 hB1' hb1 hb2
  go_enter Tryd.func24, Tryd.ntmps24
  go_upto_region 2 with (fail)
  rw [← hW1, ← hW2]
  clear hW1 hW2
  obtain ⟨g, hg⟩ : ∃ g, g = w.heap.size + 1 := ⟨_, rfl⟩
  have HG := Lib.hid hg
  rw [← hg] at HB2 ⊢
  clear hg hsz1
  go_wp2_with fail
  go_loopw [6] (fun i wr => ∃ k : Nat, ∃ A2 c2, k ≤ m ∧ i = .int .i64 k ∧ Hid (wr.ownsRow w.heap.size 36 4 (.slice A2 k c2) k ((X.take k).flatMap insc)) ∧ Hid (Blk wr g 29 #[.slice A2 k c2, .int .i64 st]) ∧ Hid (Below w.heap.size W2 wr) ∧ Hid (Blk wr w.heap.size 29 #[.slice none 0 0, .int .i64 0])) (fun i _ => m - (intOf i).toNat)
  case atStart => exact ⟨0, none, 0, Nat.zero_le _, rfl, Lib.hid (World.ownsRow_nil _ _ _ _), HB2, Lib.hid (Below.refl _ _), HB1⟩
  case round =>
    obtain ⟨k, A2, c2, hk, rfl, HO, HC, HR, HC1⟩ := hrel
    by_cases hlt : k < m
    · have hkL : k < X.length := by rw [HM.out]; exact hlt
      have HRz := HR.out.size
      have HW2z := HW2.out.size
      obtain ⟨b, o, rfl, _, hcell⟩ := (HRD.out.below (HW2.out.trans HR.out)) k hkL
      have HTK := Lib.hid (show X.take (k + 1) = X.take k ++ [X[k]] from List.take_succ_eq_append_getElem hkL)
      obtain ⟨x, hx⟩ : ∃ x, x = X[k] := ⟨_, rfl⟩
      rw [← hx] at hcell HTK
      have f0 := hcell 0 _ rfl
      have f1 := hcell 1 _ rfl
      have f2 := hcell 2 _ rfl
      have f3 := hcell 3 _ rfl
      simp only [Nat.add_zero] at f0
      have c0 := HC.out.cell 0
      simp only [List.getElem?_toArray, List.getElem?_cons_zero] at c0
      clear hcell hx hkL
      go_upto_region 5 with (fail)
      obtain ⟨xs, hxs⟩ : ∃ xs, (X.take k).flatMap insc = xs := ⟨_, rfl⟩
      have HXS := Lib.hid (show (X.take (k + 1)).flatMap insc = xs ++ insc x by rw [HTK.out, List.flatMap_append, hxs]; simp)
      rw [hxs] at HO
      have K0 := Lib.hid (fun (kv : List Value) (y : World) (hl : kv.length ≤ 1) (hI : mmI wr g w.heap.size k st (.slice A2 k c2) xs x kv y) => cell_keep (mmI_old kv y hl hI) f0)
      have K1 := Lib.hid (fun (kv : List Value) (y : World) (hl : kv.length ≤ 1) (hI : mmI wr g w.heap.size k st (.slice A2 k c2) xs x kv y) => cell_keep (mmI_old kv y hl hI) f1)
      have K2 := Lib.hid (fun (kv : List Value) (y : World) (hl : kv.length ≤ 1) (hI : mmI wr g w.heap.size k st (.slice A2 k c2) xs x kv y) => cell_keep (mmI_old kv y hl hI) f2)
      have K3 := Lib.hid (fun (kv : List Value) (y : World) (hl : kv.length ≤ 1) (hI : mmI wr g w.heap.size k st (.slice A2 k c2) xs x kv y) => cell_keep (mmI_old kv y hl hI) f3)
      have KC := Lib.hid (fun (kv : List Value) (y : World) (hl : kv.length ≤ 1) (hI : mmI wr g w.heap.size k st (.slice A2 k c2) xs x kv y) => cell_keep (mmI_old kv y hl hI) c0)
      clear f0 f1 f2 f3 c0 hxs HTK
      have hkm : k ≤ 9000 := by omega
      have hwz : w.heap.size ≤ wr.heap.size := Nat.le_trans HW2z HRz
      apply wp_region_ph [23, 24, 26] (mmI wr g w.heap.size k st (.slice A2 k c2) xs x) [opE _, opE _, opE _, opE _, opE _, opE _, opE _, opE _, opE _, opE _, opE _, opE _, opE _, opE _, opE _, opE _, opE _, opE _, opE _, opE _, opE _, opE _, opE _, .key (fun v => ∃ m, v = .slice (some ⟨m, 0, none⟩) 1 1) ⟨_, 0, rfl⟩, .key (fun v => ∃ A4 c4, v = .slice A4 (k + 1) c4) ⟨_, none, 0, rfl⟩, opE _, keyAny] (by kernel_rfl) (by kernel_rfl) (by kernel_rfl) rfl rfl
      focus
        exact (Below.refl _ _).drew
      focus
        refine ⟨?_, ?_⟩
        focus
          refine phOp (by kernel_rfl) fun kv x hlo hhi hI K hk => ?_
          clear hlo hhi
          have HI := Lib.hid hI
          clear hI
          go_wp2_with fail
          exact hk _ _ rfl HI.out
        rintro _ rfl
        simp only [Act.put, List.setIfInBounds_toArray, List.set_cons_succ, List.set_cons_zero]
        refine ⟨?_, ?_⟩
        focus
          refine phOp (by kernel_rfl) fun kv x hlo hhi hI K hk => ?_
          have l0 := KC.out kv x (phHi_le hhi (by kernel_rfl)) hI
          have HI := Lib.hid hI
          clear hI hlo hhi
          go_wp2_with fail
          exact hk _ _ rfl HI.out
        rintro _ rfl
        simp only [Act.put, List.setIfInBounds_toArray, List.set_cons_succ, List.set_cons_zero]
        refine ⟨?_, ?_⟩
        focus
          refine phOp (by kernel_rfl) fun kv x hlo hhi hI K hk => ?_
          clear hlo hhi
          have HI := Lib.hid hI
          clear hI
          go_wp2_with fail
          exact hk _ _ rfl HI.out
        rintro _ rfl
        simp only [Act.put, List.setIfInBounds_toArray, List.set_cons_succ, List.set_cons_zero]
        refine ⟨?_, ?_⟩
        focus
          refine phOp (by kernel_rfl) fun kv x hlo hhi hI K hk => ?_
          clear hlo hhi
          have HI := Lib.hid hI
          clear hI
          go_wp2_with fail
          exact hk _ _ rfl HI.out
        rintro _ rfl
        simp only [Act.put, List.setIfInBounds_toArray, List.set_cons_succ, List.set_cons_zero]
        refine ⟨?_, ?_⟩
        focus
          refine phOp (by kernel_rfl) fun kv x hlo hhi hI K hk => ?_
          clear hlo hhi
          have HI := Lib.hid hI
          clear hI
          go_wp2_with fail
          exact hk _ _ rfl HI.out
        rintro _ rfl
        simp only [Act.put, List.setIfInBounds_toArray, List.set_cons_succ, List.set_cons_zero]
        refine ⟨?_, ?_⟩
        focus
          refine phOp (by kernel_rfl) fun kv x hlo hhi hI K hk => ?_
          clear hlo hhi
          have HI := Lib.hid hI
          clear hI
          go_wp2_with fail
          exact hk _ _ rfl HI.out
        rintro _ rfl
        simp only [Act.put, List.setIfInBounds_toArray, List.set_cons_succ, List.set_cons_zero]
        refine ⟨?_, ?_⟩
        focus
          refine phOp (by kernel_rfl) fun kv x hlo hhi hI K hk => ?_
          have l0 := K0.out kv x (phHi_le hhi (by kernel_rfl)) hI
          have HI := Lib.hid hI
          clear hI hlo hhi
          go_wp2_with fail
          exact hk _ _ rfl HI.out
        rintro _ rfl
        simp only [Act.put, List.setIfInBounds_toArray, List.set_cons_succ, List.set_cons_zero]
        refine ⟨?_, ?_⟩
        focus
          refine phOp (by kernel_rfl) fun kv x hlo hhi hI K hk => ?_
          clear hlo hhi
          have HI := Lib.hid hI
          clear hI
          go_wp2_with fail
          exact hk _ _ rfl HI.out
        rintro _ rfl
        simp only [Act.put, List.setIfInBounds_toArray, List.set_cons_succ, List.set_cons_zero]
        refine ⟨?_, ?_⟩
        focus
          refine phOp (by kernel_rfl) fun kv x hlo hhi hI K hk => ?_
          clear hlo hhi
          have HI := Lib.hid hI
          clear hI
          go_wp2_with fail
          exact hk _ _ rfl HI.out
        rintro _ rfl
        simp only [Act.put, List.setIfInBounds_toArray, List.set_cons_succ, List.set_cons_zero]
        refine ⟨?_, ?_⟩
        focus
          refine phOp (by kernel_rfl) fun kv x hlo hhi hI K hk => ?_
          clear hlo hhi
          have HI := Lib.hid hI
          clear hI
          go_wp2_with fail
          exact hk _ _ rfl HI.out
        rintro _ rfl
        simp only [Act.put, List.setIfInBounds_toArray, List.set_cons_succ, List.set_cons_zero]
        refine ⟨?_, ?_⟩
        focus
          refine phOp (by kernel_rfl) fun kv x hlo hhi hI K hk => ?_
          clear hlo hhi
          have HI := Lib.hid hI
          clear hI
          go_wp2_with fail
          exact hk _ _ rfl HI.out
        rintro _ rfl
        simp only [Act.put, List.setIfInBounds_toArray, List.set_cons_succ, List.set_cons_zero]
        refine ⟨?_, ?_⟩
        focus
          refine phOp (by kernel_rfl) fun kv x hlo hhi hI K hk => ?_
          have l0 := K1.out kv x (phHi_le hhi (by kernel_rfl)) hI
          have HI := Lib.hid hI
          clear hI hlo hhi
          go_wp2_with fail
          exact hk _ _ rfl HI.out
        rintro _ rfl
        simp only [Act.put, List.setIfInBounds_toArray, List.set_cons_succ, List.set_cons_zero]
        refine ⟨?_, ?_⟩
        focus
          refine phOp (by kernel_rfl) fun kv x hlo hhi hI K hk => ?_
          clear hlo hhi
          have HI := Lib.hid hI
          clear hI
          go_wp2_with fail
          exact hk _ _ rfl HI.out
        rintro _ rfl
        simp only [Act.put, List.setIfInBounds_toArray, List.set_cons_succ, List.set_cons_zero]
        refine ⟨?_, ?_⟩
        focus
          refine phOp (by kernel_rfl) fun kv x hlo hhi hI K hk => ?_
          clear hlo hhi
          have HI := Lib.hid hI
          clear hI
          go_wp2_with fail
          exact hk _ _ rfl HI.out
        rintro _ rfl
        simp only [Act.put, List.setIfInBounds_toArray, List.set_cons_succ, List.set_cons_zero]
        refine ⟨?_, ?_⟩
        focus
          refine phOp (by kernel_rfl) fun kv x hlo hhi hI K hk => ?_
          clear hlo hhi
          have HI := Lib.hid hI
          clear hI
          go_wp2_with fail
          exact hk _ _ rfl HI.out
        rintro _ rfl
        simp only [Act.put, List.setIfInBounds_toArray, List.set_cons_succ, List.set_cons_zero]
        refine ⟨?_, ?_⟩
        focus
          refine phOp (by kernel_rfl) fun kv x hlo hhi hI K hk => ?_
          clear hlo hhi
          have HI := Lib.hid hI
          clear hI
          go_wp2_with fail
          exact hk _ _ rfl HI.out
        rintro _ rfl
        simp only [Act.put, List.setIfInBounds_toArray, List.set_cons_succ, List.set_cons_zero]
        refine ⟨?_, ?_⟩
        focus
          refine phOp (by kernel_rfl) fun kv x hlo hhi hI K hk => ?_
          have l0 := K2.out kv x (phHi_le hhi (by kernel_rfl)) hI
          have HI := Lib.hid hI
          clear hI hlo hhi
          go_wp2_with fail
          exact hk _ _ rfl HI.out
        rintro _ rfl
        simp only [Act.put, List.setIfInBounds_toArray, List.set_cons_succ, List.set_cons_zero]
        refine ⟨?_, ?_⟩
        focus
          refine phOp (by kernel_rfl) fun kv x hlo hhi hI K hk => ?_
          clear hlo hhi
          have HI := Lib.hid hI
          clear hI
          go_wp2_with fail
          exact hk _ _ rfl HI.out
        rintro _ rfl
        simp only [Act.put, List.setIfInBounds_toArray, List.set_cons_succ, List.set_cons_zero]
        refine ⟨?_, ?_⟩
        focus
          refine phOp (by kernel_rfl) fun kv x hlo hhi hI K hk => ?_
          clear hlo hhi
          have HI := Lib.hid hI
          clear hI
          go_wp2_with fail
          exact hk _ _ rfl HI.out
        rintro _ rfl
        simp only [Act.put, List.setIfInBounds_toArray, List.set_cons_succ, List.set_cons_zero]
        refine ⟨?_, ?_⟩
        focus
          refine phOp (by kernel_rfl) fun kv x hlo hhi hI K hk => ?_
          clear hlo hhi
          have HI := Lib.hid hI
          clear hI
          go_wp2_with fail
          exact hk _ _ rfl HI.out
        rintro _ rfl
        simp only [Act.put, List.setIfInBounds_toArray, List.set_cons_succ, List.set_cons_zero]
        refine ⟨?_, ?_⟩
        focus
          refine phOp (by kernel_rfl) fun kv x hlo hhi hI K hk => ?_
          clear hlo hhi
          have HI := Lib.hid hI
          clear hI
          go_wp2_with fail
          exact hk _ _ rfl HI.out
        rintro _ rfl
        simp only [Act.put, List.setIfInBounds_toArray, List.set_cons_succ, List.set_cons_zero]
        refine ⟨?_, ?_⟩
        focus
          refine phOp (by kernel_rfl) fun kv x hlo hhi hI K hk => ?_
          have l0 := K3.out kv x (phHi_le hhi (by kernel_rfl)) hI
          have HI := Lib.hid hI
          clear hI hlo hhi
          go_wp2_with fail
          exact hk _ _ rfl HI.out
        rintro _ rfl
        simp only [Act.put, List.setIfInBounds_toArray, List.set_cons_succ, List.set_cons_zero]
        refine ⟨?_, ?_⟩
        focus
          refine phOp (by kernel_rfl) fun kv x hlo hhi hI K hk => ?_
          clear hlo hhi
          have HI := Lib.hid hI
          clear hI
          go_wp2_with fail
          exact hk _ _ rfl HI.out
        rintro _ rfl
        simp only [Act.put, List.setIfInBounds_toArray, List.set_cons_succ, List.set_cons_zero]
        refine ⟨?_, ?_⟩
        focus
          refine phKey (by kernel_rfl) fun y hI K hk => ?_
          have HI := Lib.hid hI
          clear hI
          go_wp2_with fail
          exact hk _ _ ⟨_, rfl⟩ ⟨y, rfl, rfl, HI.out⟩
        rintro _ ⟨mm, rfl⟩
        simp only [Act.put, List.setIfInBounds_toArray, List.set_cons_succ, List.set_cons_zero]
        refine ⟨?_, ?_⟩
        focus
          refine phKey (by kernel_rfl) fun y hI K hk => ?_
          obtain ⟨wk, hm, rfl, hb⟩ := hI
          obtain rfl : mm = wk.heap.size := by simpa using hm
          have ho := own_low HO.out hb
          refine wp_push _ _ _ rfl Tryd.underlying27 hi hz0 hz1 hz2 rfl (by decide) ho rfl rfl rfl (by simp [Value.oneCell']) (by omega) (by decide) (Nat.le_trans hwz hb.size) ?_
          intro A4 c4 w4 ho4 hb4 hoo4
          exact hk _ _ ⟨_, _, rfl⟩ ⟨A4, c4, rfl, ho4, (hb.mono hwz).trans hb4, (HC.out.below hb).others hoo4 (by decide), (HC1.out.below hb).others hoo4 (by decide)⟩
        rintro _ ⟨A4, c4, rfl⟩
        simp only [Act.put, List.setIfInBounds_toArray, List.set_cons_succ, List.set_cons_zero]
        refine ⟨?_, ?_⟩
        focus
          refine phOp (by kernel_rfl) fun kv x hlo hhi hI K hk => ?_
          clear hlo hhi
          have HI := Lib.hid hI
          clear hI
          go_wp2_with fail
          exact hk _ _ rfl HI.out
        rintro _ rfl
        simp only [Act.put, List.setIfInBounds_toArray, List.set_cons_succ, List.set_cons_zero]
        refine ⟨?_, ?_⟩
        focus
          refine phKey (by kernel_rfl) fun y hI K hk => ?_
          obtain ⟨A5, c5, he, hO, hB5, hC5, hD5⟩ := hI
          simp only [Value.slice.injEq, true_and] at he
          obtain ⟨rfl, rfl⟩ := he
          have z1 := hC5.cell 0
          have z2 := hC5.frozen 0
          simp only [List.getElem?_toArray, List.getElem?_cons_zero, List.getElem?_cons_succ] at z1
          have HO5 := Lib.hid (own_set_blk hO hC5 (by decide) 0 (.slice A4 (k + 1) c4))
          have HB5 := Lib.hid (hB5.setCell (p := ⟨g, 0, none⟩) (by rw [HG.out]; exact Nat.le_succ _) (.slice A4 (k + 1) c4))
          have HC5 := Lib.hid (hC5.set 0 (.slice A4 (k + 1) c4))
          have HD5 := Lib.hid (hD5.other (a := ⟨g, 0, none⟩) (by show w.heap.size ≠ g; rw [HG.out]; omega) (.slice A4 (k + 1) c4))
          clear hO hB5 hC5 hD5
          go_wp2_with fail
          exact hk undef _ trivial ⟨A4, c4, rfl, HO5.out, HB5.out, HC5.out, HD5.out⟩
        rintro v4 -
        simp only [Act.put, List.setIfInBounds_toArray, List.set_cons_succ, List.set_cons_zero]
        intro y hI
        obtain ⟨A5, c5, he, hO, hB5, hC5, hD5⟩ := hI
        simp only [Value.slice.injEq, true_and] at he
        obtain ⟨rfl, rfl⟩ := he
        go_wp2_with fail
        go_roundw
        case rel => exact ⟨k + 1, A4, c4, by omega, by go_num, Lib.hid (by rw [HXS.out]; exact hO), Lib.hid hC5, Lib.hid (HR.out.trans hB5), Lib.hid hD5⟩
        case measure => simp [intOf]; omega
    · obtain rfl : k = m := by omega
      have HT := Lib.hid (show X.take k = X from List.take_of_length_le (by rw [HM.out]; exact Nat.le_refl _))
      rw [HT.out] at HO
      have y0 := HC.out.cell 0
      have y1 := HC.out.cell 1
      have z0 := HC1.out.cell 0
      have z1 := HC1.out.cell 1
      have q0 := HC1.out.frozen 0
      have q1 := HC1.out.frozen 1
      have hB2 := (HC1.out.set 0 (.slice A2 k c2)).set 1 (.int .i64 st)
      have e0 := hB2.cell 0
      have e1 := hB2.cell 1
      simp only [List.getElem?_toArray, List.getElem?_cons_zero, List.getElem?_cons_succ, List.setIfInBounds_toArray, List.set_cons_succ, List.set_cons_zero] at e0 e1 z0 z1 y0 y1
      have E0 := Lib.hid e0
      have E1 := Lib.hid e1
      have HO2 := Lib.hid (own_set_blk (own_set_blk HO.out HC1.out (by decide) 0 (.slice A2 k c2)) (HC1.out.set 0 (.slice A2 k c2)) (by decide) 1 (.int .i64 st))
      have hbF : Below w.heap.size w ((wr.setCell ⟨w.heap.size, 0, none⟩ (.slice A2 k c2)).setCell ⟨w.heap.size, 1, none⟩ (.int .i64 st)) :=
        ((HW2.out.trans HR.out).setCell (Nat.le_refl _) _).setCell (Nat.le_refl _) _
      have EF := Lib.hid hbF
      clear hbF e0 e1 hB2
      go_wp2_with fail
      refine bodyPost_ret (v := .agg #[.slice A2 k c2, .int .i64 st]) ?_ rfl ⟨A2, c2, rfl, own_insc HO2.out HM.out.symm, EF.out⟩
      have e0 := E0.out
      have e1 := E1.out
      generalize ((wr.setCell ⟨w.heap.size, 0, none⟩ (.slice A2 k c2)).setCell ⟨w.heap.size, 1, none⟩ (.int .i64 st)) = WF at *
      simp [results, Tryd.results24, go_sem, e0, e1]
end Go.Proofs.YtpogngdddendiaaDoor
