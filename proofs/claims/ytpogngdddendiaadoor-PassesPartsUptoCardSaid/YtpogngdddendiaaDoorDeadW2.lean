/- The walk over dead.seq. Bounds on the lengths. -/
import Derived.Test.YtpogngdddendiaaDoorHO
import Derived.Deep.DeepCutAuto
import Derived.Outline
set_option linter.unusedVariables false
set_option linter.unusedSimpArgs false
namespace Go.Proofs.YtpogngdddendiaaDoor
open Go.RowKit

/-- A row of slices, all from base B on. -/
def KdOD (w : World) (B : Nat) (A : Option Addr) (ls : List (List Nd)) : Prop := ∃ vs, RdL w 1 one1 A vs ∧ OwnAll w B vs ls
theorem KdOD.kd {w : World} {B : Nat} {A : Option Addr} {ls : List (List Nd)} (h : KdOD w B A ls) : KdRd w A ls := let ⟨vs, h1, h2⟩ := h; ⟨vs, h1, h2.rd⟩
theorem KdOD.below {w w' : World} {B : Nat} {A : Option Addr} {ls : List (List Nd)} (h : KdOD w B A ls) (hb : Below w.heap.size w w') : KdOD w' B A ls := let ⟨vs, h1, h2⟩ := h; ⟨vs, h1.below hb, h2.below hb⟩
theorem KdOD.at_ {w : World} {B : Nat} {A : Option Addr} {ls : List (List Nd)} (h : KdOD w B A ls) {k : Nat} (hk : k < ls.length) :
    ∃ b o n c Ak, A = some ⟨b, o, none⟩ ∧ b < w.heap.size ∧ w.cell? ⟨b, o + k, none⟩ = some (.slice Ak n c) ∧ OwnNd w B (.slice Ak n c) ls[k] := by
  obtain ⟨vs, h1, h2⟩ := h
  have hkv : k < vs.length := by rw [h2.1]; exact hk
  obtain ⟨b, o, hA, hb, hc⟩ := h1 k hkv
  have hc0 := hc 0 _ rfl
  have ho := h2.2 k hk vs[k] (List.getElem?_eq_getElem hkv)
  obtain ⟨Ak, c, he, _⟩ := own_form ho
  rw [he] at hc0 ho
  refine ⟨b, o, _, c, Ak, hA, hb, by simpa using hc0, Ak, c, rfl, ho⟩
theorem OwnNd.ownD' {x : World} {B n c : Nat} {A : Option Addr} {L : List Nd} (h : OwnNd x B (.slice A n c) L) : x.ownsRow B 98 5 (.slice A n c) L.length (L.flatMap ndc) := by
  obtain ⟨A', c', he, h2⟩ := h
  rw [he]; exact h2

theorem seqAll_append : ∀ (a b : List Tr), seqAll (a ++ b) = seqAll a ++ seqAll b
  | [], b => rfl
  | t :: a, b => by rw [List.cons_append, seqAll, seqAll, seqAll_append a b, List.append_assoc]
theorem seqAll_take (ks : List Tr) (k : Nat) (h : k < ks.length) : seqAll (ks.take (k + 1)) = seqAll (ks.take k) ++ (if ks[k].kind == 23 then ks[k].kids else [ks[k]]) := by
  rw [List.take_succ_eq_append_getElem h, seqAll_append, seqAll, seqAll, List.append_nil]
theorem seqAll_take_le (ks : List Tr) (k : Nat) : (seqAll (ks.take k)).length ≤ (flatAll ks).length := by
  have h1 := len_flatAll (seqAll (ks.take k))
  have h2 := seqAll_size (ks.take k)
  have h3 := flatAll_take_le ks k
  omega
theorem dropN_step {t : Tr} {r : List Tr} (last nop : Bool) (hl : (r.length == 0) = last) (hn : (t.kind == 20) = nop) : dropN (t :: r) = if last || !nop then t :: dropN r else dropN r := by
  cases r with
  | nil =>
    have : last = true := by rw [← hl]; rfl
    subst this
    rfl
  | cons u r =>
    have : last = false := by rw [← hl]; rfl
    subst this
    rw [dropN, hn]
    cases nop <;> rfl
theorem beq_int (a b : Nat) : (a == b) = ((a : Int) == (b : Int)) := by
  rw [Bool.eq_iff_iff, beq_iff_eq, beq_iff_eq]; omega
def same2 (a b : List Tr) (ks : List Tr) : Bool := (a.length == ks.length) && (b.length == ks.length)
/-- a program of its own, and whether it is another one -/
def SeqRet (t : Tr) (b : Bool) (w : World) (e : Ending) (w' : World) : Prop := ∃ A n c, e = .returned (.tuple #[.slice A n c, .bool b]) ∧ OwnNd w' w.heap.size (.slice A n c) (flat t) ∧ Below w.heap.size w w'

set_option maxRecDepth 100000 in
set_option maxHeartbeats 4000000 in
theorem dseq_any (A : Option Addr) (c m B : Nat) (ks : List Tr) (w : World) (hk : KdOD w B A (ks.map flat)) (hB : B ≤ w.heap.size) (hm : m = ks.length) (hz : (flatAll ks).length ≤ 4000000) :
    Calls Tryd.prog 154 #[.slice A m c] w (SeqRet (seqT (dropN (seqAll ks))) (!same2 (dropN (seqAll ks)) (seqAll ks) ks) w) := by
  obtain ⟨i0, hi, hz0, hz1, hz2⟩ := info_parts infoNodes
  have hlk := len_flatAll ks
  have HM := Lib.hid hm
  have hml : m ≤ 4000000 := by omega
  clear hm hlk
  go_enter Tryd.func154, Tryd.ntmps154
  go_wp2_with fail
  go_loopw [4, 13] (fun u j wr => ∃ (k n : Nat) (A' : Option Addr) (c' : Nat) (us : List Value), k ≤ m ∧ j = .int .i64 k ∧ u = .slice A' n c' ∧ n ≤ 4000000 ∧ Hid (n = (seqAll (ks.take k)).length) ∧
      wr.ownsRow w.heap.size 22 1 (.slice A' n c') n us ∧ OwnAll wr B us ((seqAll (ks.take k)).map flat) ∧ Below w.heap.size w wr) (fun _ j _ => m - (intOf j).toNat)
  case atStart => exact ⟨0, 0, none, 0, [], Nat.zero_le _, rfl, rfl, Nat.zero_le _, rfl, World.ownsRow_nil _ _ _ _, OwnAll.nil _ _, Below.refl _ _⟩
  case round =>
    obtain ⟨k, n, A', c', us, hkm, rfl, rfl, hn4, HN, hown, hall, hb⟩ := hrel
    by_cases hlt : k < m
    · have hkl : k < ks.length := by rw [← HM.out]; exact hlt
      obtain ⟨bk, ok, nk, ckk, Ak, rfl, hbk, hck, hok⟩ := (hk.below hb).at_ (k := k) (by simpa using hkl)
      simp only [List.getElem_map] at hok
      have hle := flatAll_mem_le ks k hkl
      have HT := Lib.hid (seqAll_take ks k hkl)
      have hn1 := seqAll_take_le ks (k + 1)
      obtain ⟨t, ht⟩ : ∃ t, t = ks[k] := ⟨_, rfl⟩
      rw [← ht] at hok hle HT
      have hsk := hok.rd
      have IS := Lib.hid (is_v _ t 23 wr hsk)
      have KC := Lib.hid (show Calls Tryd.prog 64 #[.slice Ak nk ckk] wr (KidsRet (t.kids.map flat) wr) by rw [← kidsL_tree]; exact kids_any _ _ wr hsk (by omega))
      have HL1 := Lib.hid (OwnAll.one hok.ownD')
      obtain ⟨q, hq⟩ : ∃ q, (t.kind == 23) = q := ⟨_, rfl⟩
      rw [hq] at IS HT
      rw [HT.out] at hn1
      have HN1 := Lib.hid hn1
      have HZ := Lib.hid hz
      clear ht hkl hn1 hq hsk hok hz
      go_wp2_with fail
      refine IS.out.mono ?_
      rintro e w2 ⟨rfl, rfl⟩
      cases q
      · have hn2 : n + 1 ≤ 4000000 := by
          have h := HN1.out
          have h2 := HZ.out
          rw [List.length_append, ← HN.out] at h
          simp at h
          omega
        go_wp2_with (at_builtin; refine wpList_push rfl _ _ _ rfl Tryd.underlying110 hi hz0 hz1 hz2 rfl (by decide) hown rfl rfl rfl (by simp [Value.oneCell']) (by omega) (by decide) hb.size ?_; intro A4 c4' w4 hown4 hb4 hoo4)
        go_roundw
        case rel =>
          refine ⟨k + 1, n + 1, A4, c4', us ++ [.slice Ak nk ckk], by omega, by go_num, rfl, hn2, Lib.hid (by rw [HT.out, List.length_append, ← HN.out]; rfl), by simpa using hown4, ?_, hb.trans hb4⟩
          rw [HT.out, List.map_append]
          exact (hall.others hoo4 (by decide)).append (HL1.out.others hoo4 (by decide))
        case measure => simp [intOf]; omega
      · go_wp2_with fail
        refine KC.out.mono ?_
        rintro e w5 ⟨A5, c5, vs5, rfl, ho5, hl5, hb5⟩
        have hl5n : (t.kids.map flat).length = vs5.length := hl5.1.symm
        obtain ⟨hr5, hA5, hsp5⟩ := rd_one ho5 hl5n
        have hcell5 := hl5.cells
        have hown5 := own_below hown hb5
        have hall5 := hall.below hb5
        have hb15 := hb.trans (hb5.mono hb.size)
        have H5 := Lib.hid (show OwnAll w5 B vs5 (t.kids.map flat) from hl5.mono (Nat.le_trans hB hb.size))
        rw [hl5n]
        have HLN := Lib.hid hl5n
        have HC5 := Lib.hid (show ∀ y, y ∈ vs5 → ∀ u ∈ one1 y, u.oneCell' = true from fun y hy u hu => by simp [one1] at hu; subst hu; exact hcell5 _ hy)
        have hn2 : n + vs5.length ≤ 4000000 := by
          have h := HN1.out
          have h2 := HZ.out
          rw [List.length_append, ← HN.out, if_true] at h
          rw [List.length_map] at hl5n
          omega
        clear hl5n hl5 hcell5 ho5
        go_wp2_with (at_builtin; refine wpList_pushMem (enc := one1) rfl _ _ _ rfl Tryd.underlying110 hi hz0 hz1 hz2 rfl (by decide) hown5 rfl rfl rfl hr5 hA5 hsp5 one1_len HC5.out (by omega) (by decide) hb15.size ?_; intro A4 c4' w4 hown4 hb4 hoo4)
        go_roundw
        case rel =>
          rw [one1_flat] at hown4
          refine ⟨k + 1, n + vs5.length, A4, c4', us ++ vs5, by omega, by go_num, rfl, hn2, Lib.hid (by rw [HT.out, List.length_append, ← HN.out, if_true, ← HLN.out, List.length_map]), hown4, ?_, hb15.trans hb4⟩
          rw [HT.out, if_true, List.map_append]
          exact (hall5.others hoo4 (by decide)).append (H5.out.others hoo4 (by decide))
        case measure => simp [intOf]; omega
    · obtain rfl : k = m := by omega
      have htk : ks.take k = ks := by rw [HM.out, List.take_length]
      rw [htk] at HN hall
      have hdl := dropN_size (seqAll ks)
      have hsl := seqAll_size ks
      have hal : (flatAll (seqAll ks)).length ≤ 4000000 := by omega
      obtain ⟨all, hall2⟩ : ∃ a, seqAll ks = a := ⟨_, rfl⟩
      rw [hall2] at HN hall hdl hal ⊢
      have hkd : KdOD wr B A' (all.map flat) := by
        obtain ⟨h1, _, _⟩ := rd_one hown (by rw [hall.1, List.length_map, ← HN.out])
        exact ⟨us, h1, hall⟩
      have HA := Lib.hid hal
      have HALL := Lib.hid hall2
      have HD := Lib.hid hdl
      have hlen : n ≤ 4000000 := hn4
      clear hown hall hsl hal htk hall2 hdl hlt hkm
      generalize wr = wa at *
      go_wp2_with fail
      go_loopw [5, 30] (fun u j w2 => ∃ (i q : Nat) (A4 : Option Addr) (c4 : Nat) (us : List Value) (out : List Tr), i ≤ n ∧ j = .int .i64 i ∧ u = .slice A4 q c4 ∧ q ≤ 4000000 ∧ Hid (q = out.length) ∧
          w2.ownsRow wa.heap.size 22 1 (.slice A4 q c4) q us ∧ OwnAll w2 B us (out.map flat) ∧ Hid (out ++ dropN (all.drop i) = dropN all) ∧ Below wa.heap.size wa w2) (fun _ j _ => n - (intOf j).toNat)
      case atStart => exact ⟨0, 0, none, 0, [], [], Nat.zero_le _, rfl, rfl, Nat.zero_le _, rfl, World.ownsRow_nil _ _ _ _, OwnAll.nil _ _, Lib.hid (by simp), Below.refl _ _⟩
      case round =>
        obtain ⟨i, q, A4, c4, us2, out, hin, rfl, rfl, hq4, HQ, hown, hall, HO, hb2⟩ := hrel
        by_cases hlt : i < n
        · have hil : i < all.length := by rw [← HN.out]; exact hlt
          obtain ⟨bk, ok, nk, ckk, Ak, rfl, hbk, hck, hok⟩ := (hkd.below hb2).at_ (k := i) (by simpa using hil)
          simp only [List.getElem_map] at hok
          have hdr := List.drop_eq_getElem_cons hil
          obtain ⟨t, ht⟩ : ∃ t, t = all[i] := ⟨_, rfl⟩
          rw [← ht] at hok hdr
          have IS := Lib.hid (is_v _ t 20 wr hok.rd)
          have HL1 := Lib.hid (OwnAll.one hok.ownD')
          obtain ⟨nop, hnop⟩ : ∃ b, (t.kind == 20) = b := ⟨_, rfl⟩
          obtain ⟨last, hlast⟩ : ∃ b, ((i : Int) == (n : Int) - 1) = b := ⟨_, rfl⟩
          have hlast2 : ((all.drop (i + 1)).length == 0) = last := by
            rw [← hlast, Bool.eq_iff_iff, beq_iff_eq, beq_iff_eq, List.length_drop, ← HN.out]
            omega
          have hst := dropN_step last nop hlast2 hnop
          rw [← hdr] at hst
          have HST := Lib.hid hst
          rw [hnop] at IS
          have hq5 : q + (dropN (all.drop i)).length ≤ n := by
            have h1 := congrArg List.length HO.out
            rw [List.length_append, ← HQ.out] at h1
            have h2 := HD.out.2
            rw [← HN.out] at h2
            omega
          have HQ5 := Lib.hid hq5
          clear ht hdr hil hlast2 hst hnop hok hq5
          cases last
          · cases nop
            · have hq6 : q + 1 ≤ 4000000 := by
                have h1 := HQ5.out
                rw [HST.out] at h1
                simp at h1
                omega
              go_wp2_with fail
              refine IS.out.mono ?_
              rintro e w3 ⟨rfl, rfl⟩
              go_wp2_with (at_builtin; refine wpList_push rfl _ _ _ rfl Tryd.underlying110 hi hz0 hz1 hz2 rfl (by decide) hown rfl rfl rfl (by simp [Value.oneCell']) (by omega) (by decide) hb2.size ?_; intro A6 c6 w6 hown6 hb6 hoo6)
              go_roundw
              case rel =>
                refine ⟨i + 1, q + 1, A6, c6, us2 ++ [.slice Ak nk ckk], out ++ [t], by omega, by go_num, rfl, hq6, Lib.hid (by rw [List.length_append, ← HQ.out]; rfl), by simpa using hown6, ?_, Lib.hid ?_, hb2.trans hb6⟩
                · rw [List.map_append]
                  exact (hall.others hoo6 (by decide)).append (HL1.out.others hoo6 (by decide))
                · rw [← HO.out, HST.out]
                  simp
              case measure => simp [intOf]; omega
            · go_wp2_with fail
              refine IS.out.mono ?_
              rintro e w3 ⟨rfl, rfl⟩
              go_wp2_with fail
              go_roundw
              case rel =>
                refine ⟨i + 1, q, A4, c4, us2, out, by omega, by go_num, rfl, hq4, HQ, hown, hall, Lib.hid ?_, hb2⟩
                rw [← HO.out, HST.out]
                simp
              case measure => simp [intOf]; omega
          · have hq6 : q + 1 ≤ 4000000 := by
              have h1 := HQ5.out
              rw [HST.out] at h1
              simp at h1
              omega
            go_wp2_with (at_builtin; refine wpList_push rfl _ _ _ rfl Tryd.underlying110 hi hz0 hz1 hz2 rfl (by decide) hown rfl rfl rfl (by simp [Value.oneCell']) (by omega) (by decide) hb2.size ?_; intro A6 c6 w6 hown6 hb6 hoo6)
            go_roundw
            case rel =>
              refine ⟨i + 1, q + 1, A6, c6, us2 ++ [.slice Ak nk ckk], out ++ [t], by omega, by go_num, rfl, hq6, Lib.hid (by rw [List.length_append, ← HQ.out]; rfl), by simpa using hown6, ?_, Lib.hid ?_, hb2.trans hb6⟩
              · rw [List.map_append]
                exact (hall.others hoo6 (by decide)).append (HL1.out.others hoo6 (by decide))
              · rw [← HO.out, HST.out]
                simp
            case measure => simp [intOf]; omega
        · obtain rfl : i = n := by omega
          have hout : out = dropN all := by
            have h := HO.out
            rw [List.drop_of_length_le (by rw [← HN.out]; exact Nat.le_refl _)] at h
            simpa [dropN] using h
          have HOU := Lib.hid hout
          subst hout
          have hkd2 := (KdRd.of_own hown (by rw [List.length_map]; exact HQ.out) hall)
          have SC := Lib.hid (seq_any A4 c4 q (dropN all) wr hkd2 HQ.out (by have h1 := HA.out; have h2 := HD.out.1; omega))
          have hbw := hb.trans (hb2.mono hb.size)
          obtain ⟨s1, hs1⟩ : ∃ b, ((q : Int) == (k : Int)) = b := ⟨_, rfl⟩
          obtain ⟨s2, hs2⟩ : ∃ b, ((i : Int) == (k : Int)) = b := ⟨_, rfl⟩
          have HSM := Lib.hid (show same2 (dropN all) all ks = (s1 && s2) by
            unfold same2
            rw [← HQ.out, ← HN.out, ← HM.out, beq_int, beq_int, hs1, hs2])
          clear hown hall hkd hkd2 hlt
          cases s1
          · go_wp2_with fail
            refine SC.out.mono ?_
            rintro e w5 ⟨A5, n5, c5, rfl, o5, hb5⟩
            have H5 := Lib.hid (o5.mono hbw.size)
            clear o5
            go_wp2_with fail
            go_ret2
            exact ⟨A5, n5, c5, by rw [HALL.out, HSM.out]; rfl, by rw [HALL.out]; exact H5.out, hbw.trans (hb5.mono hbw.size)⟩
          · cases s2
            all_goals
              go_wp2_with fail
              refine SC.out.mono ?_
              rintro e w5 ⟨A5, n5, c5, rfl, o5, hb5⟩
              have H5 := Lib.hid (o5.mono hbw.size)
              clear o5
              go_wp2_with fail
              go_ret2
              exact ⟨A5, n5, c5, by rw [HALL.out, HSM.out]; rfl, by rw [HALL.out]; exact H5.out, hbw.trans (hb5.mono hbw.size)⟩
end Go.Proofs.YtpogngdddendiaaDoor
