/- The walk over inline's whole: a tree's calls of what is known made frames. Bounds on the lengths. -/
import Derived.Test.YtpogngdddendiaaDoorHS
import Derived.Test.YtpogngdddendiaaDoorHL
import Derived.Deep.DeepCutAuto
import Derived.Outline
set_option linter.unusedVariables false
set_option linter.unusedSimpArgs false
namespace Go.Proofs.YtpogngdddendiaaDoor
open Go.RowKit Go.Maps

theorem ibody_any (mb N : Nat) (F : List UInt8 → Option Value) (s : List UInt8) (w : World) (h : MapIs Tryd.prog 9 w mb N F) (hs : s.length ≤ 4000000) :
    Calls Tryd.prog 137 #[.agg #[.map (some mb)], .string ⟨s.toArray⟩] w (Ret w (.tuple #[(F s).getD (.slice none 0 0), .bool (F s).isSome])) := by
  have HK := Lib.hid (fun (W : World) (hb : Below w.heap.size w W) => (h.below hb).look mstr Tryd.underlying146 (Tryd.zeroValue22 W) (s := s) (by unfold maxLen; omega))
  clear h
  generalize (F s).getD (.slice none 0 0) = v at *
  generalize (F s).isSome = q at *
  go_enter Tryd.func137, Tryd.ntmps137
  go_upto_region 1 with (fail)
  have hb : Below w.heap.size w (w.alloc (.cells #[.map (some mb)] 148)) := (Below.refl _ _).alloc (Nat.le_refl _) _
  have hk := HK.out _ hb
  go_wp2_with fail
  go_ret2
  exact ⟨rfl, hb⟩

theorem own_addrI' {w : World} {base : Nat} {e : TypeId} {sz n c : Nat} {A : Option Addr} {xs : List Value} (h : w.ownsRow base e sz (.slice A n c) n xs) (hn : 0 < n) : ∃ g, A = some ⟨g, 0, none⟩ := by
  rcases h.2 with ⟨he, h0⟩ | ⟨g, cap, cur, he, _⟩
  · omega
  · injection he with he1 _ _
    exact ⟨g, he1⟩
theorem OwnAll.tail {w : World} {base : Nat} {v : Value} {vs : List Value} {L : List Nd} {ls : List (List Nd)} (h : OwnAll w base (v :: vs) (L :: ls)) : OwnAll w base vs ls :=
  ⟨by have := h.1; simpa using this, fun i hi u hu => by have := h.2 (i + 1) (by simpa using hi) u (by simpa using hu); simpa using this⟩
/-- The pass, in its block. -/
def PsB (w : World) (g mb sz : Nat) : Prop := Blk w g 153 #[.map (some mb), .int .i64 sz]
def WholeRet (g mb : Nat) (r : Tr × Nat) (w : World) (e : Ending) (w' : World) : Prop :=
  ∃ v, e = .returned v ∧ OwnNd w' w.heap.size v (flat r.1) ∧ PsB w' g mb r.2 ∧ But g w w'
theorem PsB.but {w w' : World} {g g1 mb sz : Nat} (h : PsB w g mb sz) (hb : But g1 w w') (hn : g ≠ g1) : PsB w' g mb sz := hb.blk h hn
theorem PsB.below {w w' : World} {g mb sz : Nat} (h : PsB w g mb sz) (hb : Below w.heap.size w w') : PsB w' g mb sz := Blk.below h hb
theorem inl_take (B : Body) (d sz : Nat) (ks : List Tr) (k : Nat) (h : k < ks.length) : inlTs B d (ks.take (k + 1)) sz = ((inlTs B d (ks.take k) sz).1 ++ [(inlT B d ks[k] (inlTs B d (ks.take k) sz).2).1], (inlT B d ks[k] (inlTs B d (ks.take k) sz).2).2) := by
  rw [List.take_succ_eq_append_getElem h, inlTs_snoc]
/-- What stands in the row after so many have been gone through. -/
def midI (B : Body) (d sz : Nat) (ks : List Tr) (k : Nat) : List Tr := (inlTs B d (ks.take k) sz).1 ++ ks.drop k
theorem midI_len (B : Body) (d sz : Nat) (ks : List Tr) (k : Nat) (h : k ≤ ks.length) : (midI B d sz ks k).length = ks.length := by
  unfold midI
  rw [List.length_append, inlTs_len, List.length_take, List.length_drop]
  omega
theorem midI_get (B : Body) (d sz : Nat) (ks : List Tr) (k : Nat) (h : k < ks.length) (h2 : k < (midI B d sz ks k).length) : (midI B d sz ks k)[k] = ks[k] := by
  simp only [midI]
  rw [List.getElem_append_right (by rw [inlTs_len, List.length_take]; omega)]
  simp only [inlTs_len, List.length_take, Nat.min_eq_left (Nat.le_of_lt h), Nat.sub_self, List.getElem_drop, Nat.add_zero]
theorem midI_set (B : Body) (d sz : Nat) (ks : List Tr) (k : Nat) (h : k < ks.length) : (midI B d sz ks k).set k (inlT B d ks[k] (inlTs B d (ks.take k) sz).2).1 = midI B d sz ks (k + 1) := by
  unfold midI
  have hl : (inlTs B d (ks.take k) sz).1.length = k := by rw [inlTs_len, List.length_take]; omega
  rw [inl_take B d sz ks k h, List.set_append_right _ _ (by omega), hl, Nat.sub_self, List.drop_eq_getElem_cons h, List.set_cons_zero, List.append_assoc]
  rfl
theorem midI_end (B : Body) (d sz : Nat) (ks : List Tr) : midI B d sz ks ks.length = (inlTs B d ks sz).1 := by
  unfold midI
  rw [List.take_length, List.drop_length, List.append_nil]
theorem midI_start (B : Body) (d sz : Nat) (ks : List Tr) : midI B d sz ks 0 = ks := by
  unfold midI
  rw [List.take_zero, inlTs_nil]
  rfl
theorem set_map {α β : Type} (f : α → β) (l : List α) (i : Nat) (x : α) : (l.set i x).map f = (l.map f).set i (f x) := List.map_set
theorem OwnNd.row {w : World} {B : Nat} {v : Value} {L : List Nd} (h : OwnNd w B v L) : w.ownsRow B 98 5 v L.length (L.flatMap ndc) := by
  obtain ⟨A, c, rfl, h2⟩ := h
  exact h2

theorem endI_str (B : Body) (d : Nat) (kd n : Int) (s : List UInt8) (r : List Tr × Nat) (q : Nat) (h : s.length ≤ q) : (endI B d kd n s r).1.str.length ≤ q := by
  unfold endI
  split
  · split
    · exact Nat.zero_le _
    · exact h
  · exact h
theorem inlTs_str (B : Body) (d q : Nat) : ∀ (ts : List Tr) (sz : Nat), (∀ t ∈ ts, t.str.length ≤ q) → ∀ k ∈ (inlTs B d ts sz).1, k.str.length ≤ q
  | [], sz, _, k, h => by rw [inlTs_nil] at h; cases h
  | t :: ts, sz, hq, k, h => by
    rw [inlTs_cons] at h
    rcases List.mem_cons.1 h with rfl | h
    · obtain ⟨kd, n, s, ks⟩ := t
      rw [inlT_mk]
      exact endI_str B d kd n s _ q (hq _ (List.mem_cons_self ..))
    · exact inlTs_str B d q ts _ (fun t ht => hq t (List.mem_cons_of_mem _ ht)) k h
set_option maxRecDepth 100000 in
set_option maxHeartbeats 4000000 in
theorem iwhole_any (mb M : Nat) (B : Body) (hBl : ∀ s b, B s = some b → (flat b).length ≤ 4000) : ∀ (N : Nat) (t : Tr) (v : Value) (d sz g : Nat) (w : World), (flat t).length ≤ N → N ≤ 4000 → callK t = true → (∀ x ∈ flat t, NdOk x) → d + N ≤ 8000 → sz ≤ 4000 → SlRd w v (flat t) → PsB w g mb sz → BodR w mb M B →
    Calls Tryd.prog 113 #[.pointer (some ⟨g, 0, none⟩), v, .int .i64 d] w (WholeRet g mb (inlT B d t sz) w) := by
  intro N
  induction N with
  | zero => intro t v d sz g w h; have := flat_pos t; omega
  | succ N ih =>
  intro t v d sz g w hN hN2 hck hnd hd hsz hv hP hM
  obtain ⟨i0, hi, hi0, hi1, hi2⟩ := info_parts infoNodes
  cases t with
  | mk kd n s ks =>
  rw [flat_size] at hN
  have hlk := len_flatAll ks
  have KC := Lib.hid (show Calls Tryd.prog 64 #[v] w (KidsRet (ks.map flat) w) by
    rw [← kidsL_flat kd n s ks]
    exact kids_any v _ w hv (by rw [flat_size]; omega))
  have HV := Lib.hid hv
  have HP := Lib.hid hP
  have HM := Lib.hid hM
  have HND := Lib.hid hnd
  have HIH := Lib.hid ih
  rw [callK_mk, Bool.and_eq_true] at hck
  have HCK := Lib.hid hck
  have HBL := Lib.hid hBl
  obtain ⟨m, hml⟩ : ∃ m, m = ks.length := ⟨_, rfl⟩
  have HN := Lib.hid hml
  have HNF := Lib.hid hN
  have hm4 : m ≤ 4000 := by omega
  clear hml hv hP hM hnd ih hck hBl hN hlk
  go_enter Tryd.func113, Tryd.ntmps113
  go_wp2_with fail
  refine KC.out.mono ?_
  rintro e w1 ⟨A1, cp1, vs, rfl, hown1, hall1, hb1⟩
  rw [List.length_map, ← HN.out] at hown1 ⊢
  have HB1 := Lib.hid hb1
  clear KC
  go_upto_region 3 with (fail)
  go_loopw [18] (fun j wr => ∃ (k : Nat) (us : List Value), k ≤ m ∧ j = .int .i64 k ∧ wr.ownsRow w.heap.size 22 1 (.slice A1 m cp1) m us ∧
      Hid (OwnAll wr w.heap.size us ((midI B (d + 1) sz ks k).map flat)) ∧ Hid (PsB wr g mb (inlTs B (d + 1) (ks.take k) sz).2) ∧ But g w wr) (fun j _ => m - (intOf j).toNat)
  case atStart => exact ⟨0, vs, Nat.zero_le _, rfl, hown1, Lib.hid (by rw [midI_start]; exact hall1), Lib.hid (by rw [List.take_zero, inlTs_nil]; exact HP.out.below hb1), But.of hb1⟩
  case round =>
    obtain ⟨k, us, hk, rfl, hown, HALL, HPR, hbw⟩ := hrel
    by_cases hlt : k < m
    · have hlt' : k < ks.length := by rw [← HN.out]; exact hlt
      obtain ⟨g1, rfl⟩ := own_addrI' hown (by omega)
      have hul : us.length = m := by have := hown.1; omega
      have hck := hown.cellAt k (by omega)
      rw [List.getElem?_eq_getElem (by omega)] at hck
      have hko := HALL.out.2 k (by rw [List.length_map, midI_len _ _ _ _ _ (by rw [← HN.out]; exact hk)]; exact hlt') us[k] (List.getElem?_eq_getElem _)
      rw [List.getElem_map, midI_get _ _ _ _ _ hlt'] at hko
      obtain ⟨uk, huk⟩ : ∃ uk, uk = us[k] := ⟨_, rfl⟩
      rw [← huk] at hck hko
      have hsk := SlRd.of_own hko rfl
      have hle := flatAll_mem_le ks k hlt'
      obtain ⟨sk, hskz⟩ : ∃ sk, sk = (inlTs B (d + 1) (ks.take k) sz).2 := ⟨_, rfl⟩
      have hskl : sk ≤ 4000 := by
        have h1 := (inlTs_le B (d + 1) (ks.take k) sz).2.2
        rw [hskz]
        omega
      have HPQ := HPR.out
      rw [← hskz] at HPQ
      have IH := Lib.hid (HIH.out ks[k] uk (d + 1) sk g wr (by have := HNF.out; omega) (by omega) ((callKs_all ks).1 HCK.out.2 _ (List.getElem_mem _)) (fun x hx => HND.out x (flat_kid (t := .mk kd n s ks) (List.getElem_mem _) hx)) (by omega) hskl hsk HPQ (BodR.but HM.out HP.out (by simp) hbw))
      rw [show (((d + 1 : Nat) : Int)) = (d : Int) + 1 from rfl] at IH
      have HTK := Lib.hid (inl_take B (d + 1) sz ks k hlt')
      have HMS := Lib.hid (midI_set B (d + 1) sz ks k hlt')
      rw [← hskz] at HTK HMS
      obtain ⟨rr, hrr⟩ : ∃ rr, rr = inlT B (d + 1) ks[k] sk := ⟨_, rfl⟩
      rw [← hrr] at IH HTK HMS
      have HO := Lib.hid hown
      have HBW := Lib.hid hbw
      obtain ⟨hg1, hg2⟩ := hown.lt g1 rfl
      have HG1 := Lib.hid hg1
      have HGP := Lib.hid HP.out.lt
      have HPQ' := Lib.hid HPQ
      obtain ⟨ak, ck, rfl, -⟩ := own_form hko
      clear hown hbw hrr hskz huk hko hsk hle hg1 hg2 HPQ
      generalize (flat ks[k]).length = nk at *
      clear hlt'
      go_wp2_with fail
      refine IH.out.mono ?_
      rintro e w2 ⟨v2, rfl, hv2, hp2, hb2⟩
      have hown2 := own_but HO.out hb2 HPQ'.out (by decide)
      have hall2 := OwnAll.but HALL.out HPQ'.out (by decide) hb2
      have zz := hown2.cellAt k (by have := hown2.1; omega)
      have f2 := hown2.frozenAt k
      rw [List.getElem?_eq_getElem (by have := hown2.1; omega)] at zz
      obtain ⟨zu, z2⟩ : ∃ zu, w2.cell? ⟨g1, k, none⟩ = some zu := ⟨_, zz⟩
      clear zz
      have hst := hown2.stored k v2
      have HST := Lib.hid hst
      have hoo := Others.grown hown2 hst.2 (List.mem_singleton.2 rfl)
      have hrow2 := own_others (hv2.row) hoo (by decide)
      have HAS := Lib.hid (show OwnAll (w2.setCell ⟨g1, k, none⟩ v2) w.heap.size (us.set k v2) ((midI B (d + 1) sz ks (k + 1)).map flat) by
        rw [← HMS.out, set_map]
        exact OwnAll.setI (hall2.others hoo (by decide)) k (own_mono hrow2 HBW.out.size))
      have HPS := Lib.hid (show PsB (w2.setCell ⟨g1, k, none⟩ v2) g mb (inlTs B (d + 1) (ks.take (k + 1)) sz).2 by
        rw [HTK.out]
        exact Blk.others hp2 hoo (by decide))
      have HBS := Lib.hid (show But g w (w2.setCell ⟨g1, k, none⟩ v2) from (HBW.out.trans hb2).of2 ((Below.refl _ _).grown hst.2 (HBW.out.trans hb2).size (fun k hk => by cases hk; exact HG1.out)))
      obtain ⟨a2, c2, rfl, -⟩ := hv2
      clear hp2 hb2 hown2 hall2 hst hoo hrow2 HALL HPR HBW HPQ' IH
      go_wp2_with fail
      go_roundw
      case rel => exact ⟨k + 1, us.set k _, by omega, by go_num, HST.out.1, HAS, HPS, HBS.out⟩
      case measure => simp [intOf]; omega
    · obtain rfl : k = m := by omega
      have HE := Lib.hid (inlT_mk B d kd n s ks sz)
      rw [HN.out, List.take_length] at HPR
      rw [HN.out, midI_end] at HALL
      have hrl := inlTs_len B (d + 1) ks sz
      have hle := inlTs_le B (d + 1) ks sz
      have hst := inlTs_str B (d + 1) 4000000 ks sz (fun t ht => (HND.out ⟨t.kind, t.num, t.kids.length, ((flat t).length : Int), t.str⟩ (flat_kid (t := .mk kd n s ks) ht (List.mem_iff_getElem.2 ⟨0, flat_pos t, flat_get0 t _⟩))).1)
      rw [← HN.out] at hrl
      have hsl := SlRd.but HV.out HP.out (by simp) hbw
      obtain ⟨r, hr⟩ : ∃ r, r = inlTs B (d + 1) ks sz := ⟨_, rfl⟩
      rw [← hr] at HALL HPR HE hrl hle hst
      obtain ⟨rs, sz'⟩ := r
      simp only at HALL HPR hrl hle hst
      have HST := Lib.hid hst
      clear hst
      have hfl : (flatAll rs).length ≤ 8000 := by have := HNF.out; omega
      have hsz' : sz' ≤ 4000 := by omega
      obtain ⟨Av, cv, rfl, hrd, _⟩ := hsl
      have hpv : 0 < (flat (.mk kd n s ks)).length := flat_pos _
      obtain ⟨bv, ov, rfl, _⟩ := hrd.addr hpv
      have hx := (hrd.at_ hpv).2
      have hhead : (flat (.mk kd n s ks))[0] = ⟨kd, n, ks.length, ((1 + (flatAll ks).length : Nat) : Int), s⟩ := by simp [flat_mk]
      rw [hhead] at hx
      have c0 := hx 0 _ rfl
      have c1 := hx 1 _ rfl
      have c2 := hx 2 _ rfl
      have c3 := hx 3 _ rfl
      have c4 := hx 4 _ rfl
      simp only [Nat.zero_mul, Nat.add_zero] at c0 c1 c2 c3 c4
      obtain ⟨vz, hvz⟩ : ∃ vz, vz = (flat (.mk kd n s ks)).length := ⟨_, rfl⟩
      rw [← hvz] at hpv ⊢
      obtain ⟨x2, hx2⟩ : ∃ x : Int, x = (ks.length : Int) := ⟨_, rfl⟩
      obtain ⟨x3, hx3⟩ : ∃ x : Int, x = ((1 + (flatAll ks).length : Nat) : Int) := ⟨_, rfl⟩
      rw [← hx2] at c2
      rw [← hx3] at c3
      have HRL := Lib.hid hrl
      obtain ⟨wx, hwx⟩ : ∃ wx, wx = wr.alloc (.cells #[.int .i64 kd, .int .i64 n, .int .i64 x2, .int .i64 x3, .string ⟨s.toArray⟩] 98) := ⟨_, rfl⟩
      have hbx : Below wr.heap.size wr wx := by rw [hwx]; exact (Below.refl _ _).alloc (Nat.le_refl _) _
      have hBX : Blk wx wr.heap.size 98 #[.int .i64 kd, .int .i64 n, .int .i64 x2, .int .i64 x3, .string ⟨s.toArray⟩] := by rw [hwx]; exact Blk.new wr _ _
      have z0 := hBX.cell 0
      have z1 := hBX.cell 1
      have z4 := hBX.cell 4
      simp only [List.getElem?_toArray, List.getElem?_cons_zero, List.getElem?_cons_succ] at z0 z1 z4
      have HXB := Lib.hid hBX
      have HWX := Lib.hid hwx
      have HOX := Lib.hid (own_below hown hbx)
      have HAX := Lib.hid (OwnAll.below HALL.out hbx)
      have HPX := Lib.hid (PsB.below HPR.out hbx)
      have HBX := Lib.hid (hbw.trans (But.of hbx))
      have NW := Lib.hid (fun (W : World) (hW : Below wx.heap.size wx W) => newT_any kd n s A1 cp1 k rs W (KdRd.below (KdRd.of_own HOX.out (by rw [List.length_map]; exact HRL.out.symm) HAX.out) hW) HRL.out.symm (by omega))
      clear hown HALL HPR hbw hrl hle hr hwx hbx hBX hx hhead hrd hvz hx2 hx3 hlt HV
      go_upto_region 8 with (fail)
      rw [← HWX.out]
      clear c0 c1 c2 c3 c4
      cases hk21 : (kd == 21)
      case false =>
        have HEND := Lib.hid (show endI B d kd n s (rs, sz') = (.mk kd n s rs, sz') by
          unfold endI hitI
          rw [hk21]
          simp only
          cases rs <;> rfl)
        go_wp2_with fail
        refine (NW.out _ (Below.refl _ _)).mono ?_
        rintro e w9 ⟨A9, n9, c9, rfl, h9, hb9⟩
        have H9 := Lib.hid h9
        clear h9
        go_wp2_with fail
        go_ret
        exact ⟨_, rfl, by rw [HE.out, HEND.out]; exact H9.out.mono HBX.out.size, by rw [HE.out, HEND.out]; exact HPX.out.below hb9, HBX.out.trans (But.of hb9)⟩
      case true =>
        have hkd : kd = 21 := by simpa using hk21
        have hk1 : 1 ≤ k := by
          have h1 := HCK.out.1
          rw [hkd] at h1
          have h2 := HN.out
          simp at h1
          omega
        obtain ⟨k0, rest, rfl⟩ : ∃ k0 rest, rs = k0 :: rest := by
          cases rs with
          | nil => have := HRL.out; simp at this; omega
          | cons k0 rest => exact ⟨k0, rest, rfl⟩
        obtain ⟨u0, ut, rfl⟩ : ∃ u0 ut, us = u0 :: ut := by
          cases us with
          | nil => have := HAX.out.1; simp at this
          | cons u0 ut => exact ⟨u0, ut, rfl⟩
        obtain ⟨g1, rfl⟩ := own_addrI' HOX.out (by omega)
        have hu0 := HOX.out.cellAt 0 (by omega)
        rw [List.getElem?_cons_zero] at hu0
        have ho0 := HAX.out.2 0 (by simp) u0 rfl
        simp only [List.map_cons, List.getElem_cons_zero] at ho0
        obtain ⟨a0, cz, rfl, hr0, _⟩ := SlRd.of_own ho0 rfl
        obtain ⟨b0, o0, rfl, _⟩ := hr0.addr (flat_pos k0)
        have hx := (hr0.at_ (flat_pos k0)).2
        rw [flat_get0] at hx
        have y0 := hx 0 _ rfl
        have y4 := hx 4 _ rfl
        simp only [Nat.zero_mul, Nat.add_zero] at y0 y4
        have HNS := Lib.hid (HST.out k0 (List.mem_cons_self ..))
        have hp0 := flat_pos k0
        obtain ⟨n0, hn0⟩ : ∃ n0, n0 = (flat k0).length := ⟨_, rfl⟩
        rw [← hn0] at hu0 hp0
        have HHI := Lib.hid (show hitI B kd (k0 :: rest) = if k0.kind == 1 then (B k0.str).map fun b => (b, rest) else none by
          unfold hitI
          simp only [hk21, Bool.true_and])
        subst hkd
        clear hx hr0 ho0 hk21 HCK hn0
        cases hk01 : (k0.kind == 1)
        case false =>
          have HEND := Lib.hid (show endI B d 21 n s (k0 :: rest, sz') = (.mk 21 n s (k0 :: rest), sz') by
            unfold endI
            rw [HHI.out, hk01]
            rfl)
          clear y4
          go_wp2_with fail
          refine (NW.out _ (Below.refl _ _)).mono ?_
          rintro e w9 ⟨A9, n9, c9, rfl, h9, hb9⟩
          have H9 := Lib.hid h9
          clear h9
          go_wp2_with fail
          go_ret
          exact ⟨_, rfl, by rw [HE.out, HEND.out]; exact H9.out.mono HBX.out.size, by rw [HE.out, HEND.out]; exact HPX.out.below hb9, HBX.out.trans (But.of hb9)⟩
        case true =>
          obtain ⟨F, hF, hFB⟩ := HM.out
          have HFX := Lib.hid (MapIs.but hF HBX.out (MapR.notCells HM.out HP.out))
          have HBD := Lib.hid (fun (W : World) (hW : Below wx.heap.size wx W) => ibody_any mb M F k0.str W (HFX.out.below hW) HNS.out)
          have HFB := Lib.hid (hFB k0.str)
          have HH2 := Lib.hid (show hitI B 21 (k0 :: rest) = (B k0.str).map fun b => (b, rest) by rw [HHI.out, hk01]; rfl)
          have p0 := Blk.cell HPX.out 0
          simp only [List.getElem?_toArray, List.getElem?_cons_zero] at p0
          have l0 := Later.cell p0
          have l1 := Later.cell hu0
          have l2 := Later.cell y4
          clear hF hFB HHI
          go_upto_region 9 with (fail)
          clear p0 y0 hk01
          refine wp_region_eq (by kernel_rfl) (by kernel_rfl) ?_
          apply EqGo.run
          focus
            kernel_rfl
          focus
            intro x K hK
            go_wp2_with fail
            first | exact hK x (Below.refl _ _) | exact Below.refl _ _
          simp only [Act.put, List.setIfInBounds_toArray, List.set_cons_succ, List.set_cons_zero]
          apply EqGo.run
          focus
            kernel_rfl
          focus
            intro x K hK
            go_wp2_with fail
            first | exact hK x (Below.refl _ _) | exact Below.refl _ _
          simp only [Act.put, List.setIfInBounds_toArray, List.set_cons_succ, List.set_cons_zero]
          apply EqGo.run
          focus
            kernel_rfl
          focus
            intro x K hK
            go_wp2_with fail
            first | exact hK x (Below.refl _ _) | exact Below.refl _ _
          simp only [Act.put, List.setIfInBounds_toArray, List.set_cons_succ, List.set_cons_zero]
          apply EqGo.run
          focus
            kernel_rfl
          focus
            intro x K hK
            go_wp2_with fail
            first | exact hK x (Below.refl _ _) | exact Below.refl _ _
          simp only [Act.put, List.setIfInBounds_toArray, List.set_cons_succ, List.set_cons_zero]
          apply EqGo.run
          focus
            kernel_rfl
          focus
            intro x K hK
            go_wp2_with fail
            first | exact hK x (Below.refl _ _) | exact Below.refl _ _
          simp only [Act.put, List.setIfInBounds_toArray, List.set_cons_succ, List.set_cons_zero]
          apply EqGo.run
          focus
            kernel_rfl
          focus
            intro x K hK
            go_wp2_with fail
            first | exact hK x (Below.refl _ _) | exact Below.refl _ _
          simp only [Act.put, List.setIfInBounds_toArray, List.set_cons_succ, List.set_cons_zero]
          apply EqGo.run
          focus
            kernel_rfl
          focus
            intro x K hK
            go_wp2_with fail
            first | exact hK x (Below.refl _ _) | exact Below.refl _ _
          simp only [Act.put, List.setIfInBounds_toArray, List.set_cons_succ, List.set_cons_zero]
          apply EqGo.run
          focus
            kernel_rfl
          focus
            intro x K hK
            go_wp2_with fail
            first | exact hK x (Below.refl _ _) | exact Below.refl _ _
          simp only [Act.put, List.setIfInBounds_toArray, List.set_cons_succ, List.set_cons_zero]
          apply EqGo.run
          focus
            kernel_rfl
          focus
            intro x K hK
            go_wp2_with fail
            first | exact hK x (Below.refl _ _) | exact Below.refl _ _
          simp only [Act.put, List.setIfInBounds_toArray, List.set_cons_succ, List.set_cons_zero]
          apply EqGo.run
          focus
            kernel_rfl
          focus
            intro x K hK
            go_wp2_with fail
            first | exact hK x (Below.refl _ _) | exact Below.refl _ _
          simp only [Act.put, List.setIfInBounds_toArray, List.set_cons_succ, List.set_cons_zero]
          apply EqGo.run
          focus
            kernel_rfl
          focus
            intro x K hK
            go_wp2_with fail
            refine (Hid.out HBD x.val x.below).mono ?_
            rintro e x' ⟨rfl, hb'⟩
            exact hK ⟨x', x.below.trans (hb'.mono x.below.size)⟩ hb'
          simp only [Act.put, List.setIfInBounds_toArray, List.set_cons_succ, List.set_cons_zero]
          apply EqGo.run
          focus
            kernel_rfl
          focus
            intro x K hK
            go_wp2_with fail
            first | exact hK x (Below.refl _ _) | exact Below.refl _ _
          simp only [Act.put, List.setIfInBounds_toArray, List.set_cons_succ, List.set_cons_zero]
          apply EqGo.run
          focus
            kernel_rfl
          focus
            intro x K hK
            go_wp2_with fail
            first | exact hK x (Below.refl _ _) | exact Below.refl _ _
          simp only [Act.put, List.setIfInBounds_toArray, List.set_cons_succ, List.set_cons_zero]
          apply EqGo.run
          focus
            kernel_rfl
          focus
            intro x K hK
            go_wp2_with fail
            first | exact hK x (Below.refl _ _) | exact Below.refl _ _
          simp only [Act.put, List.setIfInBounds_toArray, List.set_cons_succ, List.set_cons_zero]
          apply EqGo.run
          focus
            kernel_rfl
          focus
            intro x K hK
            go_wp2_with fail
            first | exact hK x (Below.refl _ _) | exact Below.refl _ _
          simp only [Act.put, List.setIfInBounds_toArray, List.set_cons_succ, List.set_cons_zero]
          apply EqGo.run
          focus
            kernel_rfl
          focus
            intro x K hK
            go_wp2_with fail
            first | exact hK x (Below.refl _ _) | exact Below.refl _ _
          simp only [Act.put, List.setIfInBounds_toArray, List.set_cons_succ, List.set_cons_zero]
          intro x
          have HPY := Lib.hid (PsB.below HPX.out x.below)
          have HOY := Lib.hid (own_below HOX.out x.below)
          have HAY := Lib.hid (OwnAll.below HAX.out x.below)
          have HBY := Lib.hid (HBX.out.trans (But.of x.below))
          replace NW := Lib.hid (fun (W : World) (hW : Below x.val.heap.size x.val W) => NW.out W (x.below.trans (hW.mono x.below.size)))
          have hu0' := l1 x
          have z0' := Later.cell z0 x
          have z1' := Later.cell z1 x
          have z4' := Later.cell z4 x
          have p0 := Blk.cell HPY.out 0
          have p1 := Blk.cell HPY.out 1
          have fp1 := Blk.frozen HPY.out 1
          simp only [List.getElem?_toArray, List.getElem?_cons_zero, List.getElem?_cons_succ] at p0 p1
          clear l0 l1 l2 HPX HOX HAX HBX HXB HWX HBD hu0 y4 z0 z1 z4
          generalize x.val = wy at *
          clear x
          cases hB : B k0.str with
          | none =>
            have hF := HFB.out.1 hB
            have HEND := Lib.hid (show endI B d 21 n s (k0 :: rest, sz') = (.mk 21 n s (k0 :: rest), sz') by
              unfold endI
              rw [HH2.out, hB]
              rfl)
            rw [hF]
            simp only [Option.getD_none, Option.isSome_none]
            clear hF hB
            go_wp2_with fail
            refine (NW.out _ (Below.refl _ _)).mono ?_
            rintro e w9 ⟨A9, n9, c9, rfl, h9, hb9⟩
            have H9 := Lib.hid h9
            clear h9
            go_wp2_with fail
            go_ret
            exact ⟨_, rfl, by rw [HE.out, HEND.out]; exact H9.out.mono HBY.out.size, by rw [HE.out, HEND.out]; exact HPY.out.below hb9, HBY.out.trans (But.of hb9)⟩
          | some bt =>
            obtain ⟨vb, hF, hvb⟩ := HFB.out.2 bt hB
            have hHI : hitI B 21 (k0 :: rest) = some (bt, rest) := by rw [HH2.out, hB]; rfl
            rw [hF]
            simp only [Option.getD_some, Option.isSome_some]
            have HVB := Lib.hid (SlRd.but hvb HP.out (by simp) HBY.out)
            have HVW := Lib.hid (show SlRd w vb (flat bt) from hvb)
            have hbl := HBL.out k0.str bt hB
            have hbd := depthT_len bt
            have HDW := Lib.hid (depth_any bt vb wy HVB.out (by omega))
            obtain ⟨Ab, cb, rfl, hrb, hcb1, hcb2, hcb3, _⟩ := HVB.out
            have hbp := flat_pos bt
            have HE2 := Lib.hid (show endI B d 21 n s (k0 :: rest, sz') = if (flat bt).length ≤ 24 ∧ sz' + ((flat bt).length - 1) ≤ 1000 ∧ d + depthT bt ≤ 30 then (.mk 37 0 [] (rest ++ [bt]), sz' + ((flat bt).length - 1)) else (.mk 21 n s (k0 :: rest), sz') by
              unfold endI
              rw [hHI])
            obtain ⟨nb, hnb⟩ : ∃ nb, nb = (flat bt).length := ⟨_, rfl⟩
            rw [← hnb] at hbl hbd hcb1 hbp HE2 HDW ⊢
            have HNB := Lib.hid hnb
            obtain ⟨db, hdb⟩ : ∃ db, db = depthT bt := ⟨_, rfl⟩
            rw [← hdb] at HE2 HDW hbd
            clear hnb hdb hvb hHI hF hB hrb
            by_cases h24 : nb ≤ 24
            · by_cases h1000 : sz' + (nb - 1) ≤ 1000
              · by_cases h30 : d + db ≤ 30
                · have hE2 := HE2.out
                  rw [if_pos ⟨h24, h1000, h30⟩] at hE2
                  have HEND := Lib.hid hE2
                  clear hE2
                  go_wp2_with fail
                  refine (HDW.out).mono ?_
                  rintro e w7 ⟨rfl, hb7⟩
                  replace HPY := Lib.hid (PsB.below HPY.out hb7)
                  replace HOY := Lib.hid (own_below HOY.out hb7)
                  replace HAY := Lib.hid (OwnAll.below HAY.out hb7)
                  replace HBY := Lib.hid (HBY.out.trans (But.of hb7))
                  replace HVB := Lib.hid (SlRd.below HVB.out hb7)
                  replace NW := Lib.hid (fun (W : World) (hW : Below w7.heap.size w7 W) => NW.out W (hb7.trans (hW.mono hb7.size)))
                  replace hu0' := cell_keep hb7 hu0'
                  replace z0' := cell_keep hb7 z0'
                  replace z1' := cell_keep hb7 z1'
                  replace z4' := cell_keep hb7 z4'
                  clear p0 p1 fp1 HDW hb7
                  have p0 := Blk.cell HPY.out 0
                  have p1 := Blk.cell HPY.out 1
                  have fp1 := Blk.frozen HPY.out 1
                  simp only [List.getElem?_toArray, List.getElem?_cons_zero, List.getElem?_cons_succ] at p0 p1
                  go_upto_region 13 with (fail)
                  have hB8 := But.set (B := g) w7 1 (.int .i64 ((sz' : Int) + ((nb : Int) - 1)))
                  have HPZ := Lib.hid (show PsB (w7.setCell ⟨g, 1, none⟩ (.int .i64 ((sz' : Int) + ((nb : Int) - 1)))) g mb (sz' + (nb - 1)) by
                    have := Blk.set HPY.out 1 (.int .i64 ((sz' : Int) + ((nb : Int) - 1)))
                    unfold PsB
                    rw [show ((sz' + (nb - 1) : Nat) : Int) = (sz' : Int) + ((nb : Int) - 1) by omega]
                    simpa using this)
                  have HOZ := Lib.hid (own_but HOY.out hB8 HPY.out (by decide))
                  have HAZ := Lib.hid (OwnAll.but HAY.out HPY.out (by decide) hB8)
                  have HVZ := Lib.hid (SlRd.but HVB.out HPY.out (by simp) hB8)
                  have HBZ := Lib.hid (HBY.out.trans hB8)
                  clear hB8 HPY HOY HAY HVB HBY NW hu0' z0' z1' z4' p0 p1 fp1
                  generalize w7.setCell ⟨g, 1, none⟩ (.int .i64 ((sz' : Int) + ((nb : Int) - 1))) = w8 at *
                  have hkc := (own_block HOZ.out).choose_spec.2.2.2
                  have hbz := HBZ.out.size
                  rw [← HNB.out] at HVZ HVW
                  have hbsz : (flatAll (rest ++ [bt])).length ≤ 4000000 := by
                    rw [flatAll_cons, List.length_append] at hfl
                    have h1 := HNB.out
                    rw [flatAll_append, flatAll_cons, flatAll_nil, List.append_nil, List.length_append]
                    omega
                  have HSZ := Lib.hid hbsz
                  clear hbsz
                  by_cases hc1 : cp1 = 1
                  · obtain rfl : k = 1 := by omega
                    subst hc1
                    go_wp2_with (at_builtin; refine wpList_tail1 rfl _ _ _ rfl Tryd.underlying110 hi hi0 hi1 hi2 rfl HOZ.out (by omega) (.inr rfl) rfl (by omega) (by omega) rfl rfl (by omega) hbz ?_; intro A' c' wq hrq hAq hbq hoq hcq)
                    have hbg := HBZ.out.of2 hbq
                    have HFR := Lib.hid (show PsB wq g mb (sz' + (nb - 1)) from Blk.others HPZ.out hoq (by decide))
                    have HKD := Lib.hid (show KdRd wq A' ((rest ++ [bt]).map flat) by
                      refine ⟨_, hrq, ?_⟩
                      rw [List.map_append]
                      refine AllRd.snoc (OwnAll.others (OwnAll.tail HAZ.out) hoq (by decide)).rd ?_
                      have := HVW.out
                      rw [HNB.out] at this ⊢
                      exact SlRd.but this HP.out (by simp) hbg)
                    have HBG := Lib.hid hbg
                    clear hbg hbq hoq hrq hAq
                    refine (newT_any 37 0 [] A' c' _ (rest ++ [bt]) wq HKD.out (by have := HRL.out; simp at this ⊢; omega) HSZ.out).mono ?_
                    rintro e w9 ⟨A9, n9, c9, rfl, h9, hb9⟩
                    have H9 := Lib.hid h9
                    clear h9
                    go_wp2_with fail
                    go_ret
                    exact ⟨_, rfl, by rw [HE.out, HEND.out]; exact H9.out.mono HBG.out.size, by rw [HE.out, HEND.out]; exact HFR.out.below hb9, HBG.out.trans (But.of hb9)⟩
                  · go_wp2_with (at_builtin; refine wpList_tail1 rfl _ _ _ rfl Tryd.underlying110 hi hi0 hi1 hi2 rfl HOZ.out (by omega) (.inl rfl) rfl (by omega) (by omega) rfl rfl (by omega) hbz ?_; intro A' c' wq hrq hAq hbq hoq hcq)
                    have hbg := HBZ.out.of2 hbq
                    have HFR := Lib.hid (show PsB wq g mb (sz' + (nb - 1)) from Blk.others HPZ.out hoq (by decide))
                    have HKD := Lib.hid (show KdRd wq A' ((rest ++ [bt]).map flat) by
                      refine ⟨_, hrq, ?_⟩
                      rw [List.map_append]
                      refine AllRd.snoc (OwnAll.others (OwnAll.tail HAZ.out) hoq (by decide)).rd ?_
                      have := HVW.out
                      rw [HNB.out] at this ⊢
                      exact SlRd.but this HP.out (by simp) hbg)
                    have HBG := Lib.hid hbg
                    clear hbg hbq hoq hrq hAq
                    refine (newT_any 37 0 [] A' c' _ (rest ++ [bt]) wq HKD.out (by have := HRL.out; simp at this ⊢; omega) HSZ.out).mono ?_
                    rintro e w9 ⟨A9, n9, c9, rfl, h9, hb9⟩
                    have H9 := Lib.hid h9
                    clear h9
                    go_wp2_with fail
                    go_ret
                    exact ⟨_, rfl, by rw [HE.out, HEND.out]; exact H9.out.mono HBG.out.size, by rw [HE.out, HEND.out]; exact HFR.out.below hb9, HBG.out.trans (But.of hb9)⟩
                · have hE2 := HE2.out
                  rw [if_neg (fun h => h30 h.2.2)] at hE2
                  have HEND := Lib.hid hE2
                  clear hE2
                  go_wp2_with fail
                  refine (HDW.out).mono ?_
                  rintro e w7 ⟨rfl, hb7⟩
                  replace HPY := Lib.hid (PsB.below HPY.out hb7)
                  replace HOY := Lib.hid (own_below HOY.out hb7)
                  replace HAY := Lib.hid (OwnAll.below HAY.out hb7)
                  replace HBY := Lib.hid (HBY.out.trans (But.of hb7))
                  replace HVB := Lib.hid (SlRd.below HVB.out hb7)
                  replace NW := Lib.hid (fun (W : World) (hW : Below w7.heap.size w7 W) => NW.out W (hb7.trans (hW.mono hb7.size)))
                  replace hu0' := cell_keep hb7 hu0'
                  replace z0' := cell_keep hb7 z0'
                  replace z1' := cell_keep hb7 z1'
                  replace z4' := cell_keep hb7 z4'
                  clear p0 p1 fp1 HDW hb7
                  have p0 := Blk.cell HPY.out 0
                  have p1 := Blk.cell HPY.out 1
                  have fp1 := Blk.frozen HPY.out 1
                  simp only [List.getElem?_toArray, List.getElem?_cons_zero, List.getElem?_cons_succ] at p0 p1
                  go_wp2_with fail
                  refine (NW.out _ (Below.refl _ _)).mono ?_
                  rintro e w9 ⟨A9, n9, c9, rfl, h9, hb9⟩
                  have H9 := Lib.hid h9
                  clear h9
                  go_wp2_with fail
                  go_ret
                  exact ⟨_, rfl, by rw [HE.out, HEND.out]; exact H9.out.mono HBY.out.size, by rw [HE.out, HEND.out]; exact HPY.out.below hb9, HBY.out.trans (But.of hb9)⟩
              · have hE2 := HE2.out
                rw [if_neg (fun h => h1000 h.2.1)] at hE2
                have HEND := Lib.hid hE2
                clear hE2
                go_wp2_with fail
                refine (NW.out _ (Below.refl _ _)).mono ?_
                rintro e w9 ⟨A9, n9, c9, rfl, h9, hb9⟩
                have H9 := Lib.hid h9
                clear h9
                go_wp2_with fail
                go_ret
                exact ⟨_, rfl, by rw [HE.out, HEND.out]; exact H9.out.mono HBY.out.size, by rw [HE.out, HEND.out]; exact HPY.out.below hb9, HBY.out.trans (But.of hb9)⟩
            · have hE2 := HE2.out
              rw [if_neg (fun h => h24 h.1)] at hE2
              have HEND := Lib.hid hE2
              clear hE2
              go_wp2_with fail
              refine (NW.out _ (Below.refl _ _)).mono ?_
              rintro e w9 ⟨A9, n9, c9, rfl, h9, hb9⟩
              have H9 := Lib.hid h9
              clear h9
              go_wp2_with fail
              go_ret
              exact ⟨_, rfl, by rw [HE.out, HEND.out]; exact H9.out.mono HBY.out.size, by rw [HE.out, HEND.out]; exact HPY.out.below hb9, HBY.out.trans (But.of hb9)⟩
end Go.Proofs.YtpogngdddendiaaDoor
