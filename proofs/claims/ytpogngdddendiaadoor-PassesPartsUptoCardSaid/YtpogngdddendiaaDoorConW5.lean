/- The walk over consts.join. Bounds on the lengths. -/
import Derived.Test.YtpogngdddendiaaDoorHL
import Derived.BigRegion
set_option linter.unusedVariables false
set_option linter.unusedSimpArgs false
namespace Go.Proofs.YtpogngdddendiaaDoor
open Go.RowKit

/-- What has been put together so far, and what is still to come. -/
def mst (out rest : List Tr) : List Tr := match out.getLast? with
  | none => mrgL rest
  | some x => out.dropLast ++ mrg x rest
theorem mst_nil (rest : List Tr) : mst [] rest = mrgL rest := rfl
theorem mst_snoc (o : List Tr) (x : Tr) (rest : List Tr) : mst (o ++ [x]) rest = o ++ mrg x rest := by simp [mst]
theorem mst_first (y : Tr) (ts : List Tr) : mst [] (y :: ts) = mst [y] ts := by rw [mst_nil, show [y] = [] ++ [y] from rfl, mst_snoc]; rfl
theorem mst_fits {o : List Tr} {x y : Tr} {ts : List Tr} (h : fits x y = true) : mst (o ++ [x]) (y :: ts) = mst (o ++ [merged x y]) ts := by rw [mst_snoc, mst_snoc, mrg, if_pos h]
theorem mst_not {o : List Tr} {x y : Tr} {ts : List Tr} (h : fits x y = false) : mst (o ++ [x]) (y :: ts) = mst (o ++ [x] ++ [y]) ts := by rw [mst_snoc, mst_snoc, mrg, if_neg (by rw [h]; exact Bool.noConfusion), List.append_assoc]; rfl
theorem mst_end (out : List Tr) : mst out [] = out := by
  rcases List.eq_nil_or_concat out with rfl | ⟨o, x, rfl⟩
  · rfl
  · rw [List.concat_eq_append, mst_snoc, mrg]
theorem snoc_of {out : List Tr} {q : Nat} (h : out.length = q + 1) : ∃ o x, out = o ++ [x] ∧ o.length = q := by
  rcases List.eq_nil_or_concat out with rfl | ⟨o, x, rfl⟩
  · simp at h
  · exact ⟨o, x, by rw [List.concat_eq_append], by simpa using h⟩
theorem OwnAll.set {w : World} {B : Nat} {us : List Value} {ls : List (List Nd)} (h : OwnAll w B us ls) {k : Nat} {v : Value} {L : List Nd} (hv : w.ownsRow B 98 5 v L.length (L.flatMap ndc)) : OwnAll w B (us.set k v) (ls.set k L) := by
  refine ⟨by simp [h.1], fun i hi u hu => ?_⟩
  have hil : i < ls.length := by simpa using hi
  by_cases hik : k = i
  · subst hik
    rw [List.getElem?_set_self (by rw [h.1]; exact hil)] at hu
    injection hu with hu
    subst hu
    simp only [List.getElem_set_self]
    exact hv
  · rw [List.getElem?_set_ne hik] at hu
    rw [List.getElem_set_ne hik]
    exact h.2 i hil u hu
theorem alloc_sizeC (w : World) (o : Obj) : (w.alloc o).heap.size = w.heap.size + 1 := Array.size_push ..
theorem new2C (w : World) (a b : Array Value) : Blk (((w.alloc (.cells a 98)).alloc (.cells b 98)).drew) w.heap.size 98 a ∧ Blk (((w.alloc (.cells a 98)).alloc (.cells b 98)).drew) (w.heap.size + 1) 98 b ∧ Below w.heap.size w (((w.alloc (.cells a 98)).alloc (.cells b 98)).drew) := by
  have h1 := Blk.new w 98 a
  have h2 := Blk.new (w.alloc (.cells a 98)) 98 b
  rw [alloc_sizeC] at h2
  have hb : Below (w.alloc (.cells a 98)).heap.size (w.alloc (.cells a 98)) ((w.alloc (.cells a 98)).alloc (.cells b 98)) := (Below.refl _ _).alloc (Nat.le_refl _) _
  exact ⟨h1.below hb.drew, h2, ((((Below.refl w.heap.size w).alloc (Nat.le_refl _) _).alloc (by rw [alloc_sizeC]; omega) _)).drew⟩
theorem ba_appJ (x y : List UInt8) : (⟨x.toArray⟩ ++ ⟨y.toArray⟩ : ByteArray) = ⟨(x ++ y).toArray⟩ := by apply ByteArray.ext; simp
theorem own_addr' {w : World} {base : Nat} {e : TypeId} {sz n c : Nat} {A : Option Addr} {xs : List Value} (h : w.ownsRow base e sz (.slice A n c) n xs) (hn : 0 < n) : ∃ g, A = some ⟨g, 0, none⟩ := by
  rcases h.2 with ⟨h', h0⟩ | ⟨g, cap, cur, h', _⟩
  · omega
  · injection h' with h1 _ _
    exact ⟨g, h1⟩

set_option maxRecDepth 100000 in
set_option maxHeartbeats 2000000 in
theorem cjoin_any (P : Tr → Prop) (hP : Opens P) (hL : ∀ t, P t → isLit t = true → t.str.length ≤ 2000) (hM : ∀ x y, P x → P y → fits x y = true → P (merged x y)) (B : Nat) (A : Option Addr) (m c : Nat) (ks : List Tr) (w : World) (hB : B ≤ w.heap.size) (hz : sizeL ks ≤ 1000000) (hne : ks ≠ []) (hp : ∀ t ∈ ks, P t) (hrow : RowO w B A m c ks) :
    Calls Tryd.prog 131 #[.slice A m c] w (OwnRet B (flat (joinT ks)) w) := by
  obtain ⟨i0, hi, hz0, hz1, hz2⟩ := info_parts infoNodes
  have OC := Lib.hid (copened_any P hP B (sizeL ks) A m c ks w hB (Nat.le_refl _) hz hne hp hrow)
  obtain ⟨f1, f2, f3, f4, f5⟩ := opn_spec hP (sizeL ks) ks (Nat.le_refl _) hne hp
  have HJ := Lib.hid (show joinT ks = joinO (mrgL (opn (sizeL ks) ks)) from rfl)
  have hl0 := sizeL_len (opn (sizeL ks) ks)
  generalize opn (sizeL ks) ks = F at *
  have hF : F.length ≤ 1000000 := by omega
  have HF3 := Lib.hid f3
  have HFS := Lib.hid (show sizeL F ≤ 1000000 by omega)
  have HLL := Lib.hid hL
  have HMM := Lib.hid hM
  clear f1 f2 f3 f4 f5 hl0 hL hM hP hne hp hrow hz
  go_enter Tryd.func131, Tryd.ntmps131
  go_wp2_with fail
  refine OC.out.mono ?_
  rintro e w1 ⟨A1, M, c1, rfl, hrow, hb⟩
  have HR := Lib.hid hrow
  have hMl := hrow.len
  have HML := Lib.hid hMl
  have hM6 : M ≤ 1000000 := by omega
  clear hrow hMl hF OC
  go_wp2_with fail
  go_loopw [4, 14] (fun v i w2 => ∃ (k q : Nat) (A' : Option Addr) (c' : Nat) (us : List Value) (out : List Tr), k ≤ M ∧ i = .int .i64 k ∧ v = .slice A' q c' ∧ q ≤ k ∧ Hid (q = out.length) ∧
      w2.ownsRow w1.heap.size 22 1 (.slice A' q c') q us ∧ OwnAll w2 B us (out.map flat) ∧ Hid (mst out (F.drop k) = mrgL F) ∧ Hid (∀ t ∈ out, P t) ∧ Below w1.heap.size w1 w2) (fun _ i _ => M - (intOf i).toNat)
  case atStart => exact ⟨0, 0, none, 0, [], [], Nat.zero_le _, rfl, rfl, Nat.le_refl _, rfl, World.ownsRow_nil _ _ _ _, OwnAll.nil _ _, Lib.hid rfl, Lib.hid (by simp), Below.refl _ _⟩
  case round =>
    obtain ⟨k, q, A', c', us, out, hk, rfl, rfl, hqk, HQ, hown, hall, HO, HPO, hb2⟩ := hrel
    by_cases hlt : k < M
    · have hkU : k < F.length := by rw [← HML.out]; exact hlt
      obtain ⟨b1, o1, Ay, n1, cy, rfl, -, cc1, own1⟩ := (HR.out.below hb2).at_ hkU
      have hdr := List.drop_eq_getElem_cons hkU
      have hpy := HF3.out F[k] (List.getElem_mem _)
      obtain ⟨y, hy⟩ : ∃ y, y = F[k] := ⟨_, rfl⟩
      rw [← hy] at own1 hdr hpy
      rw [hdr] at HO
      obtain ⟨b3, o3, rfl, h03, -, -, -, e0, e1, e2, e3, e4⟩ := head_cells own1.rd
      have LC := Lib.hid (clit_v _ n1 cy y wr own1.rd)
      have HL1 := Lib.hid (OwnAll.one own1.own')
      have hmc := HR.out.cap
      have HPY := Lib.hid hpy
      clear hdr hkU hy own1 hpy
      rcases Nat.eq_zero_or_pos q with h0 | h0
      · subst h0
        have hout : out = [] := List.eq_nil_of_length_eq_zero HQ.out.symm
        subst hout
        have HST := Lib.hid (mst_first y (F.drop (k + 1)))
        have HP4 := Lib.hid (show ∀ t ∈ ([] : List Tr) ++ [y], P t from fun t ht => by rw [List.mem_singleton.1 ht]; exact HPY.out)
        clear e0 e1 e2 e3 e4 LC
        go_wp2_with (at_builtin; refine wpList_push rfl _ _ _ rfl Tryd.underlying110 hi hz0 hz1 hz2 rfl (by decide) hown rfl rfl rfl (by simp [Value.oneCell']) (by omega) (by decide) hb2.size ?_; intro A4 c4 w4 hown4 hb4 hoo4)
        go_roundw
        case rel =>
          refine ⟨k + 1, 0 + 1, A4, c4, us ++ [.slice (some ⟨b3, o3, none⟩) n1 cy], [] ++ [y], by omega, by go_num, rfl, by omega, Lib.hid (by rw [List.length_append, ← HQ.out]; rfl), by simpa using hown4, ?_, Lib.hid (HST.out.symm.trans HO.out), HP4, hb2.trans hb4⟩
          rw [List.map_append]
          exact (hall.others hoo4 (by decide)).append (HL1.out.others hoo4 (by decide))
        case measure => simp [intOf]; omega
      · obtain ⟨q, rfl⟩ : ∃ q', q = q' + 1 := ⟨q - 1, by omega⟩
        obtain ⟨o, x, rfl, hol⟩ := snoc_of HQ.out.symm
        have hpx := HPO.out x (by simp)
        have HPX := Lib.hid hpx
        have HP4 := Lib.hid (show ∀ t ∈ (o ++ [x]) ++ [y], P t from fun t ht => by
          rcases List.mem_append.1 ht with ht | ht
          · exact HPO.out t ht
          · rw [List.mem_singleton.1 ht]; exact HPY.out)
        obtain ⟨g, rfl⟩ := own_addr' hown (by omega)
        have hulen : us.length = q + 1 := by simpa using hown.1
        have hku : q < us.length := by omega
        have hcell := hown.cellAt q (by omega)
        rw [List.getElem?_eq_getElem hku] at hcell
        have hlq : q < ((o ++ [x]).map flat).length := by simp; omega
        have hsx := hall.2 q hlq us[q] (List.getElem?_eq_getElem hku)
        have hgx : ((o ++ [x]).map flat)[q] = flat x := by
          rw [List.getElem_map, List.getElem_append_right (by omega)]
          simp
        rw [hgx] at hsx
        obtain ⟨Ax, cx, hex, _⟩ := own_form hsx
        rw [hex] at hcell hsx
        have hsr := SlRd.of_own hsx rfl
        obtain ⟨nx, hnx⟩ : ∃ nx, nx = (flat x).length := ⟨_, rfl⟩
        rw [← hnx] at hcell hsr
        obtain ⟨bx, ox, rfl, hx0, -, -, -, x0, x1, x2, x3, x4⟩ := head_cells hsr
        have LX := Lib.hid (clit_v _ nx cx x wr hsr)
        have HOL := Lib.hid hol
        clear hpx hku hlq hsx hgx hex hsr hnx hulen h0
        cases hl : isLit y
        · have HST := Lib.hid (mst_not (o := o) (x := x) (y := y) (ts := F.drop (k + 1)) (by simp [fits, hl]))
          rw [hl] at LC
          clear hl LX e0 e1 e2 e3 e4 x0 x1 x2 x3 x4
          go_wp2_with fail
          refine LC.out.mono ?_
          rintro e w3 ⟨rfl, rfl⟩
          go_wp2_with (at_builtin; refine wpList_push rfl _ _ _ rfl Tryd.underlying110 hi hz0 hz1 hz2 rfl (by decide) hown rfl rfl rfl (by simp [Value.oneCell']) (by omega) (by decide) hb2.size ?_; intro A4 c4 w4 hown4 hb4 hoo4)
          go_roundw
          case rel =>
            refine ⟨k + 1, q + 1 + 1, A4, c4, us ++ [.slice (some ⟨b3, o3, none⟩) n1 cy], (o ++ [x]) ++ [y], by omega, by go_num, rfl, by omega, Lib.hid (by rw [List.length_append, ← HQ.out]; rfl), by simpa using hown4, ?_, Lib.hid (HST.out.symm.trans HO.out), HP4, hb2.trans hb4⟩
            rw [List.map_append]
            exact (hall.others hoo4 (by decide)).append (HL1.out.others hoo4 (by decide))
          case measure => simp [intOf]; omega
        · cases hlx : isLit x
          · have HST := Lib.hid (mst_not (o := o) (x := x) (y := y) (ts := F.drop (k + 1)) (by simp [fits, hlx]))
            rw [hl] at LC
            rw [hlx] at LX
            clear hl hlx e0 e1 e2 e3 e4 x0 x1 x2 x3 x4
            go_wp2_with fail
            refine LC.out.mono ?_
            rintro e w3 ⟨rfl, rfl⟩
            go_wp2_with fail
            refine LX.out.mono ?_
            rintro e w3 ⟨rfl, rfl⟩
            go_wp2_with (at_builtin; refine wpList_push rfl _ _ _ rfl Tryd.underlying110 hi hz0 hz1 hz2 rfl (by decide) hown rfl rfl rfl (by simp [Value.oneCell']) (by omega) (by decide) hb2.size ?_; intro A4 c4 w4 hown4 hb4 hoo4)
            go_roundw
            case rel =>
              refine ⟨k + 1, q + 1 + 1, A4, c4, us ++ [.slice (some ⟨b3, o3, none⟩) n1 cy], (o ++ [x]) ++ [y], by omega, by go_num, rfl, by omega, Lib.hid (by rw [List.length_append, ← HQ.out]; rfl), by simpa using hown4, ?_, Lib.hid (HST.out.symm.trans HO.out), HP4, hb2.trans hb4⟩
              rw [List.map_append]
              exact (hall.others hoo4 (by decide)).append (HL1.out.others hoo4 (by decide))
            case measure => simp [intOf]; omega
          · have hly := HLL.out y HPY.out hl
            have hlx2 := HLL.out x HPX.out hlx
            rw [hl] at LC
            rw [hlx] at LX
            have hfit : fits x y = ((x.num == y.num) && decide (x.str.length + y.str.length ≤ 2000)) := by unfold fits; rw [hl, hlx]; rfl
            have HFT := Lib.hid hfit
            clear hl hlx hfit
            go_wp2_with fail
            refine LC.out.mono ?_
            rintro e w3 ⟨rfl, rfl⟩
            go_wp2_with fail
            refine LX.out.mono ?_
            rintro e w3 ⟨rfl, rfl⟩
            clear LC LX
            go_upto_region 8 with (fail)
            have hba := fun (p : Addr) (v : Value) (hp : w3.cell? p = some v) (o : Obj) => cell_keep ((Below.refl w3.heap.size w3).alloc (Nat.le_refl _) o) hp
            have hbb := fun (p : Addr) (v : Value) (hp : w3.cell? p = some v) (o o' : Obj) => cell_keep (((Below.refl w3.heap.size w3).alloc (Nat.le_refl _) o).alloc (by rw [alloc_sizeC]; omega) o') hp
            go_cut [8, 9] (fun u v wx => ∃ g8 g9, u = .pointer (some ⟨g8, 0, none⟩) ∧ v = .pointer (some ⟨g9, 0, none⟩) ∧ Blk wx g8 98 #[.int .i64 x.kind, .int .i64 x.num, .int .i64 x.kids.length, .int .i64 (flat x).length, .string ⟨x.str.toArray⟩] ∧ Blk wx g9 98 #[.int .i64 y.kind, .int .i64 y.num, .int .i64 y.kids.length, .int .i64 (flat y).length, .string ⟨y.str.toArray⟩] ∧ Below w3.heap.size w3 wx)
            case first =>
              have p0 := hba _ _ hcell
              have p1 := hbb _ _ hcell
              have r0 := hba _ _ x0
              have r1 := hba _ _ x1
              have r2 := hba _ _ x2
              have r3 := hba _ _ x3
              have r4 := hba _ _ x4
              have s0 := hbb _ _ x0
              have s1 := hbb _ _ x1
              have s2 := hbb _ _ x2
              have s3 := hbb _ _ x3
              have s4 := hbb _ _ x4
              have t0 := hba _ _ e0
              have t1 := hba _ _ e1
              have t2 := hba _ _ e2
              have t3 := hba _ _ e3
              have t4 := hba _ _ e4
              have u0 := hbb _ _ e0
              have u1 := hbb _ _ e1
              have u2 := hbb _ _ e2
              have u3 := hbb _ _ e3
              have u4 := hbb _ _ e4
              clear hba hbb
              go_region
              · have hN := new2C w3 #[.int .i64 x.kind, .int .i64 x.num, .int .i64 x.kids.length, .int .i64 (flat x).length, .string ⟨x.str.toArray⟩] #[.int .i64 y.kind, .int .i64 y.num, .int .i64 y.kids.length, .int .i64 (flat y).length, .string ⟨y.str.toArray⟩]
                have HN := Lib.hid hN
                clear hN
                go_wp2_with fail
                go_meet
                exact ⟨_, _, rfl, rfl, HN.out.1, HN.out.2.1, HN.out.2.2⟩
              · have hN := new2C w3 #[.int .i64 y.kind, .int .i64 y.num, .int .i64 y.kids.length, .int .i64 (flat y).length, .string ⟨y.str.toArray⟩] #[.int .i64 x.kind, .int .i64 x.num, .int .i64 x.kids.length, .int .i64 (flat x).length, .string ⟨x.str.toArray⟩]
                have HN := Lib.hid hN
                clear hN
                go_wp2_with fail
                go_meet
                exact ⟨_, _, rfl, rfl, HN.out.2.1, HN.out.1, HN.out.2.2⟩
            case rest =>
            obtain ⟨g8, g9, rfl, rfl, B8, B9, hbx⟩ := hcut
            have a1 := B8.cell 1
            have a4 := B8.cell 4
            have d1 := B9.cell 1
            have d4 := B9.cell 4
            simp only [List.getElem?_toArray, List.getElem?_cons_zero, List.getElem?_cons_succ] at a1 a4 d1 d4
            replace HL1 := Lib.hid (HL1.out.below hbx)
            have hown := own_below hown hbx
            have hall := hall.below hbx
            have hb2 := hb2.trans (hbx.mono hb2.size)
            obtain ⟨lx, hlx⟩ : ∃ lx, x.str.length = lx := ⟨_, rfl⟩
            obtain ⟨ly, hly'⟩ : ∃ ly, y.str.length = ly := ⟨_, rfl⟩
            rw [hlx, hly'] at HFT
            have hlx9 : lx ≤ 2000 := by omega
            have hly9 : ly ≤ 2000 := by omega
            clear B8 B9 hbx hba hbb e0 e1 e2 e3 e4 x0 x1 x2 x3 x4 hcell hly hlx2
            by_cases hn : x.num = y.num
            · have hnq : (x.num == y.num) = true := by rw [hn]; exact beq_self_eq_true _
              by_cases hle : lx + ly ≤ 2000
              · have hg1 : decide ((lx : Int) + (ly : Int) ≤ 2000) = true := decide_eq_true (by omega)
                have hfit : fits x y = true := by rw [HFT.out, hnq, decide_eq_true hle]; rfl
                have HST := Lib.hid (mst_fits (o := o) (ts := F.drop (k + 1)) hfit)
                have HPM := Lib.hid (show ∀ t ∈ o ++ [merged x y], P t from fun t ht => by
                  rcases List.mem_append.1 ht with ht | ht
                  · exact HPO.out t (by simp [ht])
                  · rw [List.mem_singleton.1 ht]; exact HMM.out x y HPX.out HPY.out hfit)
                have NC := Lib.hid (show Calls Tryd.prog 45 #[.int .i64 1, .int .i64 y.num, .string (⟨x.str.toArray⟩ ++ ⟨y.str.toArray⟩), .slice none 0 0] wc (VRet (flat (merged x y)) wc) by
                  rw [ba_appJ, ← hn]
                  exact newT_any 1 x.num (x.str ++ y.str) none 0 0 [] wc (KdRd.nil _ _) rfl (of_decide_eq_true (by kernel_rfl)))
                clear hfit HFT hle HL1
                go_wp2_with fail
                refine NC.out.mono ?_
                rintro e w5 ⟨A5, n5, c5, rfl, o5, hb5⟩
                have hown2 := own_below hown hb5
                have hall2 := hall.below hb5
                have hb12 := hb2.trans (hb5.mono hb2.size)
                have hg : w1.heap.size ≤ g := (hown.lt g rfl).1
                obtain ⟨cur, hcur⟩ : ∃ cur, Blk w5 g 22 cur := by
                  rcases hown2.2 with ⟨h', _⟩ | ⟨g', cap', cur', h', hb', hg', _⟩
                  · simp at h'
                  · simp only [Value.slice.injEq, Option.some.injEq, Addr.mk.injEq, and_true, true_and] at h'
                    obtain ⟨rfl, rfl⟩ := h'
                    exact ⟨_, hg'⟩
                have hulen : us.length = q + 1 := by simpa using hown.1
                have hku : q < us.length := by omega
                have z0 := hown2.cellAt q (by omega)
                rw [List.getElem?_eq_getElem hku] at z0
                have q0 := hown2.frozenAt q
                have HOW := Lib.hid hown2
                have HAL := Lib.hid hall2
                have HO5 := Lib.hid (show OwnAll w5 B [.slice A5 n5 c5] [flat (merged x y)] from OwnAll.one ((o5.mono (Nat.le_trans hB (Nat.le_trans hb.size hb2.size))).own'))
                have HCU := Lib.hid hcur
                generalize us[q] = uk at *
                clear hown hall hown2 hall2 o5 NC hcur hku hulen
                go_wp2_with fail
                go_roundw
                case rel =>
                  have hoo : Others [22] w5 (w5.setCell ⟨g, q, none⟩ (.slice A5 n5 c5)) := Others.setCell (show w5.heap[(⟨g, q, none⟩ : Addr).block]? = some (.cells cur 22 (0, 0)) from HCU.out) (by simp) _
                  refine ⟨k + 1, q + 1, some ⟨g, 0, none⟩, c', us.set q (.slice A5 n5 c5), o ++ [merged x y], by omega, by go_num, rfl, by omega, Lib.hid (by rw [List.length_append, HOL.out]; rfl), (HOW.out.stored q _).1, ?_, Lib.hid (HST.out.symm.trans HO.out), HPM, hb12.setCell hg _⟩
                  have h1 := (HAL.out.others hoo (by decide)).set (k := q) ((HO5.out.others hoo (by decide)).2 0 (by simp) _ rfl)
                  simp only [List.getElem_cons_zero] at h1
                  rw [← List.map_set, show (o ++ [x]).set q (merged x y) = o ++ [merged x y] by rw [← HOL.out]; simp] at h1
                  exact h1
                case measure => simp [intOf]; omega
              · have hg1 : decide ((lx : Int) + (ly : Int) ≤ 2000) = false := decide_eq_false (by omega)
                have hfit : fits x y = false := by rw [HFT.out, decide_eq_false hle, Bool.and_false]
                have HST := Lib.hid (mst_not (o := o) (ts := F.drop (k + 1)) hfit)
                clear hfit HFT hle
                go_wp2_with (at_builtin; refine wpList_push rfl _ _ _ rfl Tryd.underlying110 hi hz0 hz1 hz2 rfl (by decide) hown rfl rfl rfl (by simp [Value.oneCell']) (by omega) (by decide) hb2.size ?_; intro A4 c4 w4 hown4 hb4 hoo4)
                go_roundw
                case rel =>
                  refine ⟨k + 1, q + 1 + 1, A4, c4, us ++ [.slice (some ⟨b3, o3, none⟩) n1 cy], (o ++ [x]) ++ [y], by omega, by go_num, rfl, by omega, Lib.hid (by rw [List.length_append, ← HQ.out]; rfl), by simpa using hown4, ?_, Lib.hid (HST.out.symm.trans HO.out), HP4, hb2.trans hb4⟩
                  rw [List.map_append]
                  exact (hall.others hoo4 (by decide)).append (HL1.out.others hoo4 (by decide))
                case measure => simp [intOf]; omega
            · have hnq : (x.num == y.num) = false := by rw [beq_eq_false_iff_ne]; exact hn
              have hfit : fits x y = false := by rw [HFT.out, hnq]; rfl
              have HST := Lib.hid (mst_not (o := o) (ts := F.drop (k + 1)) hfit)
              clear hfit HFT hn
              go_wp2_with (at_builtin; refine wpList_push rfl _ _ _ rfl Tryd.underlying110 hi hz0 hz1 hz2 rfl (by decide) hown rfl rfl rfl (by simp [Value.oneCell']) (by omega) (by decide) hb2.size ?_; intro A4 c4 w4 hown4 hb4 hoo4)
              go_roundw
              case rel =>
                refine ⟨k + 1, q + 1 + 1, A4, c4, us ++ [.slice (some ⟨b3, o3, none⟩) n1 cy], (o ++ [x]) ++ [y], by omega, by go_num, rfl, by omega, Lib.hid (by rw [List.length_append, ← HQ.out]; rfl), by simpa using hown4, ?_, Lib.hid (HST.out.symm.trans HO.out), HP4, hb2.trans hb4⟩
                rw [List.map_append]
                exact (hall.others hoo4 (by decide)).append (HL1.out.others hoo4 (by decide))
              case measure => simp [intOf]; omega
    · obtain rfl : k = M := by omega
      have hou : out = mrgL F := by
        have h := HO.out
        rw [List.drop_of_length_le (by rw [← HML.out]; exact Nat.le_refl _), mst_end] at h
        exact h
      have hsz := mrgL_size F
      rw [← hou] at HJ hsz
      have hso : sizeL out ≤ 4000000 := by have := HFS.out; omega
      have HRO := Lib.hid (RowO.of_own hown hall HQ.out)
      have hbw := hb.trans (hb2.mono hb.size)
      have NC := Lib.hid (fun W (hW : Below wr.heap.size wr W) => newT_any 4 0 [] A' c' q out W (HRO.out.kd.kd.below hW) HQ.out (by unfold sizeL at hso; exact hso))
      have hqc := HRO.out.cap
      have hcm := HRO.out.max
      unfold maxLen at hcm
      clear hown hall hou hsz
      by_cases h1 : q = 1
      · subst h1
        obtain ⟨x, rfl⟩ := List.length_eq_one_iff.1 HQ.out.symm
        obtain ⟨b4, o4, A4, n4, c4, rfl, -, cc4, own4⟩ := HRO.out.at_ (k := 0) (by simp)
        simp only [List.getElem_cons_zero, Nat.add_zero] at cc4 own4
        have SC := Lib.hid (csingle_v A4 n4 c4 x wr own4.rd)
        have HO4 := Lib.hid own4
        obtain ⟨sg, hsg⟩ : ∃ sg, singleB x = sg := ⟨_, rfl⟩
        rw [hsg] at SC
        cases sg
        · have HE := Lib.hid (show joinO [x] = .mk 4 0 [] [x] by rw [joinO, hsg]; rfl)
          clear hsg own4
          go_wp2_with fail
          refine SC.out.mono ?_
          rintro e w3 ⟨rfl, hb3⟩
          have NC3 := Lib.hid (NC.out _ hb3)
          have hb13 := hbw.trans (hb3.mono hbw.size)
          go_wp2_with fail
          refine NC3.out.mono ?_
          rintro e w5 ⟨A5, n5, c5, rfl, o5, hb5⟩
          have O5 := Lib.hid (o5.mono (Nat.le_trans hB hb13.size))
          have hb15 := hb13.trans (hb5.mono hb13.size)
          clear o5
          go_wp2_with fail
          go_ret
          exact ⟨A5, n5, c5, rfl, by rw [HJ.out, HE.out]; exact O5.out, hb15⟩
        · have HE := Lib.hid (show joinO [x] = x by rw [joinO, hsg]; rfl)
          clear hsg own4
          go_wp2_with fail
          refine SC.out.mono ?_
          rintro e w3 ⟨rfl, hb3⟩
          have O4 := Lib.hid (HO4.out.below hb3)
          have cc5 := cell_keep hb3 cc4
          have hb13 := hbw.trans (hb3.mono hbw.size)
          go_wp2_with fail
          go_ret
          exact ⟨A4, n4, c4, rfl, by rw [HJ.out, HE.out]; exact O4.out, hb13⟩
      · have HE := Lib.hid (show joinO out = .mk 4 0 [] out from joinO_two fun x hx => by
          have h := HQ.out
          rw [hx] at h
          exact absurd h h1)
        have hq1 : ((q : Int) == 1) = false := by rw [beq_eq_false_iff_ne]; omega
        clear h1
        go_wp2_with fail
        refine (NC.out _ (Below.refl _ _)).mono ?_
        rintro e w5 ⟨A5, n5, c5, rfl, o5, hb5⟩
        have O5 := Lib.hid (o5.mono (Nat.le_trans hB hbw.size))
        have hb15 := hbw.trans (hb5.mono hbw.size)
        clear o5
        go_wp2_with fail
        go_ret
        exact ⟨A5, n5, c5, rfl, by rw [HJ.out, HE.out]; exact O5.out, hb15⟩
end Go.Proofs.YtpogngdddendiaaDoor
