/- Every good tree is written: word and do, by size. No condition beyond the bounds in their contracts. -/
import Derived.Test.YtpogngdddendiaaDoorGV
set_option linter.unusedVariables false
set_option linter.unusedSimpArgs false
namespace Go.Proofs.YtpogngdddendiaaDoor
open Go.RowKit

theorem okAll_get {f : Nat → Tr → Bool} : ∀ (ts : List Tr) (k : Nat), okAll f k ts = true → ∀ i (h : i < ts.length), f (k + i) ts[i] = true
  | t :: ts, k, h, 0, _ => by rw [okAll, Bool.and_eq_true] at h; exact h.1
  | t :: ts, k, h, i + 1, hi => by
    rw [okAll, Bool.and_eq_true] at h
    have := okAll_get ts (k + 1) h.2 i (by simpa using hi)
    rw [show k + (i + 1) = k + 1 + i by omega]
    exact this
theorem okT_parts {d : Nat} {b : Bool} {kd n : Int} {s : List UInt8} {ks : List Tr} (h : okT (d + 1) b (.mk kd n s ks) = true) : kindB b kd = true ∧ fieldsB ⟨kd, n, 0, 0, s⟩ = true ∧ childrenB kd ks.length = true ∧ ∀ i (hi : i < ks.length), okT d (takesB kd ks.length i) ks[i] = true := by
  rw [okT] at h
  simp only [Bool.and_eq_true] at h
  obtain ⟨⟨⟨h1, h2⟩, h3⟩, h4⟩ := h
  exact ⟨h1, h2, h3, fun i hi => by have := okAll_get ks 0 h4 i hi; rwa [Nat.zero_add] at this⟩
theorem ok_kind {d : Nat} {b : Bool} {t : Tr} (h : okT d b t = true) : t.kind ≠ 0 := by
  cases d with
  | zero => cases t; rw [okT] at h; cases h
  | succ d =>
    cases t with
    | mk kd n s ks =>
      have h1 := (okT_parts h).1
      intro h0
      have h0' : kd = 0 := h0
      subst h0'
      cases b <;> revert h1 <;> decide
theorem word_range {kd : Int} (h : kindB true kd = true) : 1 ≤ kd ∧ kd ≤ 12 := by
  simp [kindB, wordB] at h
  omega
theorem command_range {kd : Int} (h : kindB false kd = true) : 20 ≤ kd ∧ kd ≤ 37 := by
  simp [kindB, commandB] at h
  omega
theorem height_pos : ∀ (d : Nat) (t : Tr), okT d true t = true → 1 ≤ heightT t
  | 0, .mk kd n s ks, h => by rw [okT] at h; cases h
  | d + 1, .mk kd n s ks, h => by
    obtain ⟨h1, h2, h3, h4⟩ := okT_parts h
    obtain ⟨hr1, hr2⟩ := word_range h1
    rw [heightT_mk]
    unfold topH
    split
    · exact Nat.le_max_left _ _
    · rename_i hk
      split
      · exact Nat.le_refl _
      · rename_i hk2
        simp only [Bool.or_eq_true, beq_iff_eq, not_or, Bool.and_eq_true, not_and] at hk hk2
        have hlen : 0 < ks.length := by
          rcases Nat.eq_zero_or_pos ks.length with h0 | h0
          · rw [h0] at h3
            have : kd = 3 ∨ kd = 4 ∨ kd = 5 ∨ kd = 6 ∨ kd = 7 ∨ kd = 8 ∨ kd = 9 ∨ kd = 10 ∨ kd = 11 := by omega
            rcases this with rfl | rfl | rfl | rfl | rfl | rfl | rfl | rfl | rfl
            · exact absurd h0 (hk2 rfl)
            all_goals exact absurd h3 (by decide)
          · exact h0
        have ht : takesB kd ks.length 0 = true := by
          have : kd = 3 ∨ kd = 4 ∨ kd = 5 ∨ kd = 6 ∨ kd = 7 ∨ kd = 8 ∨ kd = 9 ∨ kd = 10 ∨ kd = 11 := by omega
          rcases this with rfl | rfl | rfl | rfl | rfl | rfl | rfl | rfl | rfl <;> rfl
        have h5 := h4 0 hlen
        rw [show ((0 : Nat) : Int) = 0 from rfl, ht] at h5
        have h6 := height_pos d _ h5
        have h7 := heightTs_get kd ks.length 0 ks 0 hlen
        omega
theorem flat1 (t : Tr) : (flatAll [t]).length = (flat t).length := by rw [flatAll_cons, flatAll_nil, List.append_nil]
theorem flat2 (t u : Tr) : (flatAll [t, u]).length = (flat t).length + (flat u).length := by rw [flatAll_cons, flatAll_cons, flatAll_nil, List.append_nil, List.length_append]
set_option maxRecDepth 100000 in
set_option maxHeartbeats 4000000 in
/-- ticked, whatever the kind. -/
theorem tk_all (kd n : Int) (s : List UInt8) (ks : List Tr) (d : Nat) (hr : kd = 21 ∨ kd = 22 ∨ (30 ≤ kd ∧ kd ≤ 37)) (hs : s.length ≤ 2000) (hc : childrenB kd ks.length = true) (hok : ∀ i (hi : i < ks.length), okT d (takesB kd ks.length i) ks[i] = true)
    (hw : ∀ i (hi : i < ks.length), takesB kd ks.length i = true → WordOk ks[i]) (hd : ∀ i (hi : i < ks.length), takesB kd ks.length i = false → DoOk ks[i]) : TkOk kd n s ks := by
  intro kk z base g X now high H A c m w hin hH hm hmc
  have kh := fun i (h : i < ks.length) => kid_h kd n s ks i h
  rw [← hH] at kh
  have hcase : kd = 21 ∨ kd = 22 ∨ kd = 30 ∨ kd = 31 ∨ kd = 32 ∨ kd = 33 ∨ kd = 34 ∨ kd = 35 ∨ kd = 36 ∨ kd = 37 := by omega
  rcases hcase with rfl | rfl | rfl | rfl | rfl | rfl | rfl | rfl | rfl | rfl
  · have h1 : 1 ≤ ks.length := by simp [childrenB] at hc; omega
    exact tk21 ks (fun t ht => by
      obtain ⟨i, hi, rfl⟩ := List.mem_iff_getElem.1 ht
      exact hw i hi rfl) h1 n kk z s hs base g X now high H A c m w hin hm (fun i h => by have := kh i h; simpa [addH] using this)
  · have h1 : ks.length = 1 := by simp [childrenB] at hc; omega
    obtain ⟨t, rfl⟩ : ∃ t, ks = [t] := by
      match ks, h1 with
      | [t], _ => exact ⟨t, rfl⟩
    rw [flat1] at hin ⊢
    exact tk22 t (hw 0 (by simp) rfl) n kk z s hs base g X now high H A c m w hin hm (by have := kh 0 (by simp); simpa [addH] using this)
  · have h1 : ks.length % 2 = 1 := by simp [childrenB] at hc; omega
    obtain ⟨p, hp⟩ : ∃ p, ks.length = 2 * p + 1 := ⟨ks.length / 2, by omega⟩
    exact tk30 ks p hp (fun k h hk => hw k h (by
      simp only [takesB]
      rcases hk with rfl | hk
      · rfl
      · simp; omega)) (fun k h h0 h2 => hd k h (by
      simp only [takesB]
      simp
      omega)) n kk z s hs base g X now high H A c m w hin hm (fun i h => by have := kh i h; simpa [addH] using this)
  · have h1 : ks.length = 1 := by simp [childrenB] at hc; omega
    obtain ⟨t, rfl⟩ : ∃ t, ks = [t] := by
      match ks, h1 with
      | [t], _ => exact ⟨t, rfl⟩
    rw [flat1] at hin ⊢
    exact tk31 t (hd 0 (by simp) rfl) n kk z s hs base g X now high H A c m w hin hm (by have := kh 0 (by simp); simpa [addH] using this)
  · have h1 : 1 ≤ ks.length := by simp [childrenB] at hc; omega
    exact tk32 ks (fun k h => hd k h rfl) h1 n kk z s hs base g X now high H A c m w hin hm (fun i h => by have := kh i h; simpa [addH] using this)
  · have h1 : ks.length = 2 := by simp [childrenB] at hc; omega
    obtain ⟨t, u, rfl⟩ : ∃ t u, ks = [t, u] := by
      match ks, h1 with
      | [t, u], _ => exact ⟨t, u, rfl⟩
    have hp : 1 ≤ heightT t := height_pos d t (hok 0 (by simp))
    have k0 : heightT t ≤ H := by have := kh 0 (by simp); simpa [addH] using this
    have k1 : heightT u ≤ H := by have := kh 1 (by simp); simpa [addH] using this
    rw [flat2] at hin ⊢
    exact tk33 t u (hw 0 (by simp) rfl) (hd 1 (by simp) rfl) n kk z s hs base g X now high H A c m w hin hm k0 k1 (Nat.le_trans hp k0)
  · have h1 : ks.length = 2 := by simp [childrenB] at hc; omega
    obtain ⟨t, u, rfl⟩ : ∃ t u, ks = [t, u] := by
      match ks, h1 with
      | [t, u], _ => exact ⟨t, u, rfl⟩
    have hp : 1 ≤ heightT t := height_pos d t (hok 0 (by simp))
    have k0 : heightT t ≤ H := by have := kh 0 (by simp); simpa [addH] using this
    have k1 : heightT u ≤ H := by have := kh 1 (by simp); simpa [addH] using this
    rw [flat2] at hin ⊢
    exact tk34 t u (hw 0 (by simp) rfl) (hd 1 (by simp) rfl) n kk z s hs base g X now high H A c m w hin hm k0 k1 (Nat.le_trans hp k0)
  · have h1 : ks.length = 2 := by simp [childrenB] at hc; omega
    obtain ⟨t, u, rfl⟩ : ∃ t u, ks = [t, u] := by
      match ks, h1 with
      | [t, u], _ => exact ⟨t, u, rfl⟩
    have hp : 1 ≤ heightT t := height_pos d t (hok 0 (by simp))
    have k0 : heightT t ≤ H := by have := kh 0 (by simp); simpa [addH] using this
    have k1 : heightT u ≤ H := by have := kh 1 (by simp); simpa [addH] using this
    rw [flat2] at hin ⊢
    exact tk35 t u (hw 0 (by simp) rfl) (hd 1 (by simp) rfl) n kk z s hs base g X now high H A c m w hin hm k0 k1 (Nat.le_trans hp k0)
  · have h1 : ks.length = 1 := by simp [childrenB] at hc; omega
    obtain ⟨t, rfl⟩ : ∃ t, ks = [t] := by
      match ks, h1 with
      | [t], _ => exact ⟨t, rfl⟩
    rw [flat1] at hin ⊢
    exact tk36 t (hw 0 (by simp) rfl) n kk z s hs base g X now high H A c m w hin hm (by have := kh 0 (by simp); simpa [addH] using this)
  · have h1 : 1 ≤ ks.length := by simp [childrenB] at hc; omega
    obtain ⟨p, hp⟩ : ∃ p, ks.length = p + 1 := ⟨ks.length - 1, by omega⟩
    refine tk37 ks p hp (fun t ht => ?_) (fun h => hd p h (by simp [takesB]; omega)) n kk z s hs base g X now high H A c m w hin (by omega) hmc (fun i h => ?_) (fun h => by have := kh p h; omega)
    · obtain ⟨i, hi, rfl⟩ := List.mem_iff_getElem.1 ht
      rw [List.length_take] at hi
      rw [List.getElem_take]
      exact hw i (by omega) (by simp [takesB]; omega)
    · rw [List.length_take] at h
      rw [List.getElem_take]
      have := kh i (by omega)
      have hi : addH 37 ks.length i = i := by
        unfold addH
        rw [if_neg (by decide), if_pos (by decide), if_pos (by omega)]
      omega
theorem gen_all : ∀ (N : Nat) (t : Tr) (d : Nat), (flat t).length ≤ N → (okT d true t = true → WordOk t) ∧ (okT d false t = true → DoOk t) := by
  intro N
  induction N with
  | zero => intro t d h; have := flat_pos t; omega
  | succ N ih =>
    intro t d hN
    cases d with
    | zero => cases t; exact ⟨fun h => (by rw [okT] at h; cases h), fun h => (by rw [okT] at h; cases h)⟩
    | succ d =>
      cases t with
      | mk kd n s ks =>
        rw [flat_size] at hN
        have kid : ∀ b, okT (d + 1) b (.mk kd n s ks) = true → (∀ t ∈ ks, t.kind ≠ 0) ∧ (∀ i (hi : i < ks.length), takesB kd ks.length i = true → WordOk ks[i]) ∧ (∀ i (hi : i < ks.length), takesB kd ks.length i = false → DoOk ks[i]) := by
          intro b h
          obtain ⟨_, _, _, h4⟩ := okT_parts h
          refine ⟨fun t ht => ?_, fun i hi ht => ?_, fun i hi ht => ?_⟩
          · obtain ⟨i, hi, rfl⟩ := List.mem_iff_getElem.1 ht
            exact ok_kind (h4 i hi)
          · have h5 := h4 i hi
            rw [ht] at h5
            exact (ih ks[i] d (by have := flatAll_mem_le ks i hi; omega)).1 h5
          · have h5 := h4 i hi
            rw [ht] at h5
            exact (ih ks[i] d (by have := flatAll_mem_le ks i hi; omega)).2 h5
        refine ⟨fun h => ?_, fun h => ?_⟩
        · obtain ⟨hz, hw, hd⟩ := kid true h
          have hh := height_pos _ _ h
          obtain ⟨h1, h2, h3, h4⟩ := okT_parts h
          obtain ⟨r1, r2⟩ := word_range h1
          have hs := fields_s h2
          have hcase : kd = 1 ∨ kd = 2 ∨ kd = 3 ∨ kd = 4 ∨ (5 ≤ kd ∧ kd ≤ 11) ∨ kd = 12 := by omega
          rcases hcase with rfl | rfl | rfl | rfl | ⟨r3, r4⟩ | rfl
          · exact wd1 1 rfl n s ks hz hs hh
          · exact wd2 2 rfl n s ks hz hs hh
          · exact wd3 3 rfl n s ks hz hs hh (fun t ht => by
              obtain ⟨i, hi, rfl⟩ := List.mem_iff_getElem.1 ht
              exact hw i hi rfl)
          · exact wd4 4 rfl n s ks hz hs hh (fun t ht => by
              obtain ⟨i, hi, rfl⟩ := List.mem_iff_getElem.1 ht
              exact hw i hi rfl)
          · have hcase : kd = 5 ∨ kd = 6 ∨ kd = 7 ∨ kd = 8 ∨ kd = 9 ∨ kd = 10 ∨ kd = 11 := by omega
            have hl : ks.length = 1 := by rcases hcase with rfl | rfl | rfl | rfl | rfl | rfl | rfl <;> (simp [childrenB] at h3; omega)
            exact wd5 kd r3 r4 n s ks hz hs hh hl (fun t ht => by
              obtain ⟨i, hi, rfl⟩ := List.mem_iff_getElem.1 ht
              refine hw i hi ?_
              rcases hcase with rfl | rfl | rfl | rfl | rfl | rfl | rfl <;> rfl)
          · have hl : ks.length = 1 := by simp [childrenB] at h3; omega
            exact wd12 12 rfl n s ks hz hs hh hl (fun t ht => by
              obtain ⟨i, hi, rfl⟩ := List.mem_iff_getElem.1 ht
              exact hd i hi rfl)
        · obtain ⟨hz, hw, hd⟩ := kid false h
          obtain ⟨h1, h2, h3, h4⟩ := okT_parts h
          obtain ⟨r1, r2⟩ := command_range h1
          have hs := fields_s h2
          have hcase : kd = 20 ∨ kd = 23 ∨ kd = 24 ∨ kd = 25 ∨ kd = 26 ∨ kd = 27 ∨ kd = 28 ∨ kd = 29 ∨ (kd = 21 ∨ kd = 22 ∨ (30 ≤ kd ∧ kd ≤ 37)) := by omega
          rcases hcase with rfl | rfl | rfl | rfl | rfl | rfl | rfl | rfl | hk
          · exact dd20 20 rfl n s ks hz hs
          · exact dd23 23 rfl n s ks hz hs (by simp [childrenB] at h3; omega) (fun i hi => hd i hi rfl)
          · exact dd24 24 rfl n s ks hz hs (by simp [childrenB] at h3; omega) (fun i hi => hd i hi rfl)
          · exact dd25 25 rfl n s ks hz hs (by simp [childrenB] at h3; omega) (fun i hi => hd i hi rfl)
          · exact dd26 26 rfl n s ks hz hs (by simp [childrenB] at h3; omega) (fun i hi => hd i hi rfl)
          · exact dd27 27 rfl n s ks hz hs (by simp [childrenB] at h3; omega) (fun i hi => hd i hi rfl)
          · exact dd28 28 rfl n s ks hz hs (by simp [childrenB] at h3; omega) (fun i hi => hd i hi rfl)
          · exact dd29 29 rfl n s ks hz hs (by simp [childrenB] at h3; omega) (fun i hi => ⟨fun h0 => hw i hi (by subst h0; rfl), fun h0 => hd i hi (by simp [takesB]; omega)⟩)
          · exact ddtk kd hk n s ks hz hs (tk_all kd n s ks d hk hs h3 h4 hw hd)
end Go.Proofs.YtpogngdddendiaaDoor

/- ticked at a command of words: how high the stack has been at least. Bounds as in GenD2. -/
set_option linter.unusedVariables false
set_option linter.unusedSimpArgs false
namespace Go.Proofs.YtpogngdddendiaaDoor
open Go.RowKit

set_option maxRecDepth 100000 in
set_option maxHeartbeats 8000000 in
theorem tk21x (ks : List Tr) (HW : ∀ t ∈ ks, WordOk t) (h1 : 1 ≤ ks.length) (n kk z : Int) (s : List UInt8) (hs : s.length ≤ 2000) (base g : Nat) (X : List Ins) (now high H : Nat) (A : Option Addr) (c m : Nat) (w : World) (h : TkIn base g X now high H (flatAll ks).length A (ks.map flat) w) (hm : m = ks.length) (hH : ∀ i (h : i < ks.length), heightT ks[i] + i ≤ H) :
    Calls Tryd.prog 68 #[.pointer (some ⟨g, 0, none⟩), .agg #[.int .i64 21, .int .i64 n, .int .i64 kk, .int .i64 z, .string ⟨s.toArray⟩], .slice A m c] w (fun e w' => ∃ hr, now + min m 2 ≤ hr ∧ high ≤ hr ∧ hr ≤ max high (now + H) ∧ TkRet base g X now hr H (flatAll ks).length w e w') := by
  obtain ⟨kb, ko, _, rfl, -⟩ := h.kd.at_ (k := 0) (by simp; omega)
  have hx := h.x
  have hnow := h.nb
  have h9 := h.h9
  have HSL := Lib.hid hs
  have HIN := Lib.hid h
  have HBX := Lib.hid (Blk.new w 98 #[.int .i64 21, .int .i64 n, .int .i64 kk, .int .i64 z, .string ⟨s.toArray⟩])
  have hbb : Below w.heap.size w (w.alloc (.cells #[.int .i64 21, .int .i64 n, .int .i64 kk, .int .i64 z, .string ⟨s.toArray⟩] 98)) := (Below.refl _ w).alloc (Nat.le_refl _) _
  have HS := Lib.hid (h.st hbb)
  have HBB := Lib.hid hbb
  generalize hw1 : w.alloc (.cells #[.int .i64 21, .int .i64 n, .int .i64 kk, .int .i64 z, .string ⟨s.toArray⟩] 98) = w1 at *
  have HW1 := Lib.hid hw1
  obtain ⟨gx, hgx⟩ : ∃ gx, gx = w.heap.size := ⟨_, rfl⟩
  rw [← hgx] at HBX
  have HGX := Lib.hid hgx
  have HF := Lib.hid (FrW.refl base w1)
  have q0 := HBX.out.cell 0
  have q1 := HBX.out.cell 1
  have q4 := HBX.out.cell 4
  simp only [List.getElem?_toArray, List.getElem?_cons_zero, List.getElem?_cons_succ] at q0 q1 q4
  clear h hs hw1 hgx hbb
  have hkl := len_flatAll ks
  have HCC := Lib.hid (HS.out.sub' (fun Y hi hp => together_any ks HW 3 0 (.inl rfl) (.inl rfl) base g (X ++ Y) now hi H _ c m w1 hp.wr.wr hp.kd hm hp.wr.bw hH (by rw [List.length_append]; have := hp.n; omega) (by omega) (by have := hp.wr.hi; have := hp.cap; omega) h9) (Nat.le_refl _))
  have hmn : min (m : Int) 2 = ((min m 2 : Nat) : Int) := by omega
  have hm8 : m ≤ 30000000 := by omega
  have hmk : m ≤ (flatAll ks).length := by omega
  generalize (flatAll ks).length = fl at *
  obtain ⟨mn, hmm⟩ : ∃ mn, mn = min m 2 := ⟨_, rfl⟩
  have hmn2 : mn ≤ 2 := by omega
  rw [← hmm] at hmn HCC ⊢
  clear HW hH h1 hm hmm hkl
  go_enter Tryd.func68, Tryd.ntmps68
  go_upto_region 1 with (fail)
  rw [HW1.out, ← HGX.out]
  clear HW1 HGX
  go_wp2_with fail
  refine HCC.out.mono ?_
  rintro e W' ⟨rfl, hs', hf'⟩
  replace HS := Lib.hid hs'
  replace HF := Lib.hid (HF.out.trans hf')
  clear hs' hf' HCC q0 q1 q4
  obtain ⟨hr, r1, r2, r3, hs2⟩ := HS.out.raise
  replace HS := Lib.hid hs2
  have HRR := Lib.hid (show now + mn ≤ hr ∧ high ≤ hr ∧ hr ≤ max high (now + H) from ⟨r2, r1, r3⟩)
  clear r1 r2 r3 hs2
  have HCC := Lib.hid (HS.out.op_ 15 mn 0 [] (fun m _ => by simp [okI, placeA, placeB, countA]) (by omega))
  go_wp2_with fail
  refine HCC.out.mono ?_
  rintro e W' ⟨P1, rfl, hX1, hL1, hP1, hs', hf'⟩
  replace HS := Lib.hid hs'
  replace HF := Lib.hid (HF.out.trans hf')
  clear hs' hf' HCC
  have HCC := Lib.hid (HS.out.push_ now (-(mn : Int)) (by omega) (by omega) (by omega))
  go_wp2_with fail
  refine HCC.out.mono ?_
  rintro e W' ⟨rfl, hs', hf'⟩
  replace HS := Lib.hid hs'
  replace HF := Lib.hid (HF.out.trans hf')
  clear hs' hf' HCC
  have HFIN := Lib.hid (HS.out.done (sz := 8 * fl + 4) (by omega))
  go_wp2_with fail
  go_returns
  exact ⟨hr, HRR.out.1, HRR.out.2.1, HRR.out.2.2, HFIN.out⟩
end Go.Proofs.YtpogngdddendiaaDoor

/- do at a command of words: how high the stack has been at least. Bounds as in GenD2. -/
set_option linter.unusedVariables false
set_option linter.unusedSimpArgs false
namespace Go.Proofs.YtpogngdddendiaaDoor
open Go.RowKit

/-- A command is written; the stack has been so high at least. -/
def DoLow (t : Tr) (m : Nat) : Prop := ∀ (base g : Nat) (X : List Ins) (now high : Nat) (v : Value) (w : World), WrI w base g X now high → SlS base w v (flat t) → base ≤ w.heap.size → X.length + 8 * (flat t).length ≤ 30000000 → now + (flat t).length ≤ 30000000 → high ≤ 30000000 →
  Calls Tryd.prog 33 #[.pointer (some ⟨g, 0, none⟩), v] w (fun e w' => ∃ hr, now + m ≤ hr ∧ hr ≤ max high (now + heightT t) ∧ Wrote base g X now hr now (heightT t) (8 * (flat t).length - 3) w e w')
theorem DoOk.low0 {t : Tr} (h : DoOk t) (hh : ∀ n : Nat, n = n) : ∀ (base g : Nat) (X : List Ins) (now high : Nat) (v : Value) (w : World), now ≤ high → WrI w base g X now high → SlS base w v (flat t) → base ≤ w.heap.size → X.length + 8 * (flat t).length ≤ 30000000 → now + (flat t).length ≤ 30000000 → high ≤ 30000000 →
    Calls Tryd.prog 33 #[.pointer (some ⟨g, 0, none⟩), v] w (fun e w' => ∃ hr, now + 0 ≤ hr ∧ hr ≤ max high (now + heightT t) ∧ Wrote base g X now hr now (heightT t) (8 * (flat t).length - 3) w e w') :=
  fun base g X now high v w h0 h1 h2 h3 h4 h5 h6 => (h base g X now high v w h1 h2 h3 h4 h5 h6).mono fun e w' hw => ⟨high, h0, Nat.le_max_left _ _, hw⟩
theorem DoOk.low {t : Tr} (h : DoOk t) : DoLow t 0 := fun base g X now high v w h1 h2 h3 h4 h5 h6 => h.low0 (fun _ => rfl) base g X now high v w h1.1.2 h1 h2 h3 h4 h5 h6
theorem St.sub_low {base g : Nat} {X : List Ins} {now high0 H : Nat} {w0 W : World} {A : Option Addr} {ls : List (List Nd)} {lo n : Nat} (h : St base g X now high0 H w0 A ls W now lo n) {m sz : Nat} {f : FuncId} {args : Array Value}
    (hw : ∀ Y hi, StP base g X now high0 H w0 A ls W now lo n Y hi → Calls Tryd.prog f args W (fun e w' => ∃ hr, m ≤ hr ∧ hi ≤ hr ∧ hr ≤ max hi (now + H) ∧ Wrote base g (X ++ Y) now hr now H sz W e w')) :
    Calls Tryd.prog f args W (fun e w' => ∃ hr, m ≤ hr ∧ hr ≤ max high0 (now + H) ∧ StRet base g X now hr H w0 A ls W now lo (n + sz) e w') := by
  obtain ⟨Y, hi, h⟩ := h
  refine (hw Y hi h).mono ?_
  rintro e W' ⟨hr, r1, r2, r3, Z, high', he, h1, h2, h3, h4, h5, h6⟩
  have hlo := h.wr.lo
  have hhi := h.wr.hi
  have hcap := h.cap
  refine ⟨hr, r1, by omega, he, ⟨Y ++ Z, high', ⟨⟨by rw [← List.append_assoc]; exact h1, h2, h3, fun y hy => ?_, h.wr.fr.trans h6, Nat.le_trans h.wr.bw h6.below.size⟩, h.kd.frw h6, by rw [List.length_append]; have := h.lo; omega, by rw [List.length_append]; have := h.n; omega, by omega⟩⟩, h6⟩
  rw [List.length_append] at h5 ⊢
  rcases List.mem_append.1 hy with hy | hy
  · exact okI_mono (by omega) (h.wr.ok y hy)
  · exact okI_mono (by omega) (h5 y hy)

set_option maxRecDepth 100000 in
set_option maxHeartbeats 8000000 in
theorem dd21x (kd : Int) (hkd : kd = 21) (n : Int) (s : List UInt8) (ks : List Tr) (hkz : ∀ t ∈ ks, t.kind ≠ 0) (hs : s.length ≤ 2000) (hw : ∀ t ∈ ks, WordOk t) (h1 : 1 ≤ ks.length) : DoLow (.mk kd n s ks) (min ks.length 2) := by
  have HKZ := Lib.hid hkz
  have HSL := Lib.hid hs
  have HKD := Lib.hid hkd
  have HTK := Lib.hid hw
  have HTK1 := Lib.hid h1
  obtain ⟨mn, hmn⟩ : ∃ mn, mn = min ks.length 2 := ⟨_, rfl⟩
  rw [← hmn]
  have HMN := Lib.hid hmn
  clear hkz hs hkd hw h1 hmn
  intro base g X now high v w h hv hbw hX hnow hhi
  rw [flat_size] at hX hnow ⊢
  have KC := Lib.hid (show ∀ W, SlRd W v (flat (.mk kd n s ks)) → Calls Tryd.prog 64 #[v] W (KidsRet (ks.map flat) W) from fun W h => by
    rw [← kidsL_flat kd n s ks]
    exact kids_any v _ W h (by rw [flat_size]; omega))
  have hH9 : now + heightT (.mk kd n s ks) ≤ 30000000 := by have := heightT_len (.mk kd n s ks); rw [flat_size] at this; omega
  have HV := Lib.hid hv.rd
  have HWR := Lib.hid h
  obtain ⟨A0, cp0, hve, hrd, hc0, hm0, -⟩ := hv.rd
  have h0 : 0 < (flat (.mk kd n s ks)).length := flat_pos _
  obtain ⟨b, o, rfl, hbl⟩ := hrd.addr h0
  have hx := hrd.at_ h0
  rw [show (flat (.mk kd n s ks))[0] = ⟨kd, n, ks.length, ((1 + (flatAll ks).length : Nat) : Int), s⟩ by simp [flat_mk]] at hx
  have d0 := hx.2 0 _ rfl
  have d1 := hx.2 1 _ rfl
  have d2 := hx.2 2 _ rfl
  have d3 := hx.2 3 _ rfl
  have d4 := hx.2 4 _ rfl
  simp only [Nat.zero_mul, Nat.add_zero] at d0 d1 d2 d3 d4
  subst hve
  obtain ⟨m, hml⟩ : ∃ m, m = (flat (.mk kd n s ks)).length := ⟨_, rfl⟩
  have hm1 : 0 < m := by omega
  rw [← hml] at KC HV ⊢
  have hkn := len_flatAll ks
  have HKN := Lib.hid hkn
  have HH9 := Lib.hid hH9
  have HXX := Lib.hid (And.intro hX (And.intro hnow hhi))
  have HBW := Lib.hid hbw
  obtain ⟨Hh, hHh⟩ : ∃ Hh, Hh = heightT (.mk kd n s ks) := ⟨_, rfl⟩
  rw [← hHh]
  rw [← hHh] at HH9
  have HHQ := Lib.hid hHh
  obtain ⟨Zk, hZk⟩ : ∃ Zk : Int, Zk = ks.length := ⟨_, rfl⟩
  obtain ⟨Zz, hZz⟩ : ∃ Zz : Int, Zz = ((1 + (flatAll ks).length : Nat) : Int) := ⟨_, rfl⟩
  rw [← hZk] at d2
  rw [← hZz] at d3
  have HZK := Lib.hid hZk
  obtain ⟨kl, hkl⟩ : ∃ kl, kl = ks.length := ⟨_, rfl⟩
  have HKL := Lib.hid hkl
  have HZZ := Lib.hid hZz
  clear hx hrd hc0 hm0 hkn hml h0 hv h hH9 hX hnow hhi hbw hHh hZk hZz hkl
  go_enter Tryd.func33, Tryd.ntmps33
  go_upto_region 0 with (fail)
  apply wp_region_relA 6 [eqT _, eqT _, eqT (.agg #[.int .i64 kd, .int .i64 n, .int .i64 Zk, .int .i64 Zz, .string ⟨s.toArray⟩]), eqT _, kidsG w.heap.size kl (ks.map flat), newG 98 #[.int .i64 0, .int .i64 0, .int .i64 0, .int .i64 0, .string ⟨#[]⟩] w.heap.size] (by kernel_rfl) (by kernel_rfl) (by kernel_rfl) rfl
  focus
    refine ⟨?_, ?_⟩
    focus
      unfold opGoal
      rw [if_pos (by kernel_rfl)]
      intro x hb hd K hk
      clear hd
      go_wp2_with fail
      exact hk _ _ rfl trivial (Below.refl _ _)
    rintro _ rfl
    simp only [Act.put, List.setIfInBounds_toArray, List.set_cons_succ, List.set_cons_zero]
    refine ⟨?_, ?_⟩
    focus
      unfold opGoal
      rw [if_pos (by kernel_rfl)]
      intro x hb hd K hk
      clear hd
      go_wp2_with fail
      exact hk _ _ rfl trivial (Below.refl _ _)
    rintro _ rfl
    simp only [Act.put, List.setIfInBounds_toArray, List.set_cons_succ, List.set_cons_zero]
    refine ⟨?_, ?_⟩
    focus
      unfold opGoal
      rw [if_pos (by kernel_rfl)]
      intro x hb hd K hk
      clear hd
      have l0 := cell_keep hb d0
      have l1 := cell_keep hb d1
      have l2 := cell_keep hb d2
      have l3 := cell_keep hb d3
      have l4 := cell_keep hb d4
      go_wp2_with fail
      exact hk _ _ rfl trivial (Below.refl _ _)
    rintro _ rfl
    simp only [Act.put, List.setIfInBounds_toArray, List.set_cons_succ, List.set_cons_zero]
    refine ⟨?_, ?_⟩
    focus
      unfold opGoal
      rw [if_pos (by kernel_rfl)]
      intro x hb hd K hk
      clear hd
      go_wp2_with fail
      exact hk _ _ rfl trivial (Below.refl _ _)
    rintro _ rfl
    simp only [Act.put, List.setIfInBounds_toArray, List.set_cons_succ, List.set_cons_zero]
    refine ⟨?_, ?_⟩
    focus
      unfold opGoal
      rw [if_pos (by kernel_rfl)]
      intro x hb hd K hk
      clear hd
      have hsz := hb.size
      have HC := Lib.hid (KC.out x (HV.out.below hb))
      go_wp2_with fail
      refine HC.out.mono ?_
      rintro e x' ⟨A1, c1, vs, rfl, ho, ha, hb'⟩
      rw [List.length_map, ← HKL.out] at ho ⊢
      obtain ⟨A', c', he, hnc, -⟩ := own_form ho
      injection he with he1 _ he3
      subst he1 he3
      exact hk _ _ ⟨_, _, rfl⟩ ⟨A1, c1, vs, rfl, hnc, own_mono ho hsz, ha.mono hsz⟩ hb'
    rintro _ ⟨A1, c1, rfl⟩
    simp only [Act.put, List.setIfInBounds_toArray, List.set_cons_succ, List.set_cons_zero]
    refine ⟨?_, ?_⟩
    focus
      unfold opGoal
      rw [if_pos (by kernel_rfl)]
      intro x hb hd K hk
      clear hd
      go_wp2_with fail
      refine hk _ _ ⟨_, rfl⟩ ?_ ((Below.refl _ _).alloc (Nat.le_refl _) _)
      intro g' hg
      injection hg with hg
      injection hg with hg
      injection hg with hg
      subst hg
      exact ⟨Blk.new x _ _, hb.size⟩
    rintro _ ⟨gx, rfl⟩
    simp only [Act.put, List.setIfInBounds_toArray, List.set_cons_succ, List.set_cons_zero]
    intro y hby hf
    simp only [List.drop_succ_cons, List.drop_zero]
    have hk4 := hf 4 (kidsG w.heap.size kl (ks.map flat)) (.slice A1 kl c1) (by kernel_rfl) (by kernel_rfl)
    obtain ⟨hg5, hgw⟩ := (hf 5 (newG 98 #[.int .i64 0, .int .i64 0, .int .i64 0, .int .i64 0, .string ⟨#[]⟩] w.heap.size) (.pointer (some ⟨gx, 0, none⟩)) (by kernel_rfl) (by kernel_rfl)) gx rfl
    obtain ⟨_, _, vs4, he4, hcl, ho4, ha4⟩ := hk4
    injection he4 with he4 _ he5
    subst he4 he5
    have z0 := hg5.cell 0
    have z1 := hg5.cell 1
    have z2 := hg5.cell 2
    have z3 := hg5.cell 3
    have z4 := hg5.cell 4
    have y0 := hg5.frozen 0
    have y1 := hg5.frozen 1
    have y2 := hg5.frozen 2
    have y3 := hg5.frozen 3
    have y4 := hg5.frozen 4
    simp only [List.getElem?_toArray, List.getElem?_cons_zero, List.getElem?_cons_succ] at z0 z1 z2 z3 z4
    clear hf KC d0 d1 d2 d3 d4 hbl hm1
    have HQ5 := Lib.hid hg5
    have HO4 := Lib.hid ho4
    have HA4 := Lib.hid ha4
    have HBY := Lib.hid hby
    clear hg5 ho4 ha4 hby
    go_upto_region 1 with (fail)
    obtain ⟨W', hW1⟩ : ∃ W', W' = (((((y.setCell ⟨gx, 0, none⟩ (.int .i64 kd)).setCell ⟨gx, 1, none⟩ (.int .i64 n)).setCell ⟨gx, 2, none⟩ (.int .i64 Zk)).setCell ⟨gx, 3, none⟩ (.int .i64 Zz)).setCell ⟨gx, 4, none⟩ (.string ⟨s.toArray⟩)) := ⟨_, rfl⟩
    rw [← hW1]
    have hB1 : But gx y W' := by
      rw [hW1]
      exact ((((But.set y 0 _).trans (But.set _ 1 _)).trans (But.set _ 2 _)).trans (But.set _ 3 _)).trans (But.set _ 4 _)
    have HBX := Lib.hid (show Blk W' gx 98 #[.int .i64 kd, .int .i64 n, .int .i64 Zk, .int .i64 Zz, .string ⟨s.toArray⟩] from by
      rw [hW1]
      simpa using ((((HQ5.out.set 0 (.int .i64 kd)).set 1 (.int .i64 n)).set 2 (.int .i64 Zk)).set 3 (.int .i64 Zz)).set 4 (.string ⟨s.toArray⟩))
    have HBW1 := Lib.hid (show Below w.heap.size w W' from HBY.out.trans (hB1.below hgw HBY.out.size))
    have HKS := Lib.hid (show KdS base W' A1 (ks.map flat) from KdS.of_own (own_but HO4.out hB1 HQ5.out (by decide)) (by rw [List.length_map]; exact HKL.out) (kids_ne HA4.out HQ5.out hB1 HKZ.out))
    have HS := Lib.hid (St.start (H := Hh) (HWR.out.below HBW1.out) HKS.out (Nat.le_trans HBW.out HBW1.out.size) ⟨HXX.out.2.2, HH9.out⟩)
    have HF := Lib.hid (FrW.refl base W')
    clear hW1 hB1 z0 z1 z2 z3 z4 y0 y1 y2 y3 y4 HO4 HA4 HQ5
    have hxx := HXX.out
    have hh9 := HH9.out
    have hkd := HKD.out
    obtain ⟨fl, hfl⟩ : ∃ fl, fl = (flatAll ks).length := ⟨_, rfl⟩
    have HFL := Lib.hid hfl
    rw [← hfl] at hxx
    clear hfl
    have q0 := HBX.out.cell 0
    have q1 := HBX.out.cell 1
    have q2 := HBX.out.cell 2
    have q3 := HBX.out.cell 3
    have q4 := HBX.out.cell 4
    simp only [List.getElem?_toArray, List.getElem?_cons_zero, List.getElem?_cons_succ] at q0 q1 q2 q3 q4
    have b0 : (kd == 20) = false := by simp; omega
    have b1 : (kd == 23) = false := by simp; omega
    have b2 : (kd == 24) = false := by simp; omega
    have b3 : (kd == 25) = false := by simp; omega
    have b4 : (kd == 26) = false := by simp; omega
    have b5 : (kd == 27) = false := by simp; omega
    have b6 : (kd == 28) = false := by simp; omega
    have b7 : (kd == 29) = false := by simp; omega
    clear hkd
    have HCC := Lib.hid (HS.out.op_ 14 0 0 [] (fun m _ => by simp [okI, placeA, placeB, countA]) (by omega))
    go_wp2_with fail
    refine HCC.out.mono ?_
    rintro e W' ⟨P1, rfl, hX1, hL1, hP1, hs', hf'⟩
    replace HS := Lib.hid hs'
    replace HF := Lib.hid (HF.out.trans hf')
    clear hs' hf' HCC
    clear q0 q1 q2 q3 q4
    have q0 := (HBX.out.others HF.out.others (by decide)).cell 0
    have q1 := (HBX.out.others HF.out.others (by decide)).cell 1
    have q2 := (HBX.out.others HF.out.others (by decide)).cell 2
    have q3 := (HBX.out.others HF.out.others (by decide)).cell 3
    have q4 := (HBX.out.others HF.out.others (by decide)).cell 4
    simp only [List.getElem?_toArray, List.getElem?_cons_zero, List.getElem?_cons_succ] at q0 q1 q2 q3 q4
    have HHK := Lib.hid (show ∀ i (h : i < ks.length), heightT ks[i] + i ≤ Hh from fun i h => by
      have := kid_h kd n s ks i h
      rw [HHQ.out]
      rw [HKD.out] at this ⊢
      simpa [addH] using this)
    have HCC := Lib.hid (HS.out.sub_low (m := now + mn) (sz := 8 * fl + 4) (fun Y hi hp => by
      have hin : TkIn base g (X ++ Y) now hi Hh (flatAll ks).length A1 (ks.map flat) W' := by
        rw [← HFL.out]
        exact ⟨hp.wr.wr, hp.kd, hp.wr.bw, by rw [List.length_append]; have := hp.n; omega, by omega, by have := hp.wr.hi; have := hp.cap; omega, hh9⟩
      have := tk21x ks HTK.out HTK1.out n Zk Zz s HSL.out base g (X ++ Y) now hi Hh A1 c1 kl W' hin HKL.out HHK.out
      rw [← HFL.out, show min kl 2 = mn by rw [HKL.out, HMN.out], ← HKD.out] at this
      exact this))
    go_wp2_with fail
    refine HCC.out.mono ?_
    rintro e W' ⟨hr, r1, r2, rfl, hs', hf'⟩
    replace HS := Lib.hid hs'
    have HRR := Lib.hid (And.intro r1 r2)
    clear hs' hf' HCC HF q0 q1 q2 q3 q4 r1 r2
    have HFIN := Lib.hid ((HS.out.done (sz := 8 * (1 + fl) - 3) (by omega)).of HBW1.out HBW.out)
    rw [HFL.out] at HFIN
    go_wp2_with fail
    go_returns
    exact ⟨hr, HRR.out.1, HRR.out.2, HFIN.out⟩
end Go.Proofs.YtpogngdddendiaaDoor
