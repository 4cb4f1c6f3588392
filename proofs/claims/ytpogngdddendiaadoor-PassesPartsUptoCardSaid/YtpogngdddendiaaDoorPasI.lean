/- What inline's pass makes of a good tree is a good tree, and no greater than 1,000 nodes unless it was; with no program in sight. No condition. -/
import Derived.Test.YtpogngdddendiaaDoorHR
import Derived.Test.YtpogngdddendiaaDoorHH
set_option linter.unusedVariables false
set_option linter.unusedSimpArgs false
namespace Go.Proofs.YtpogngdddendiaaDoor

theorem okAll_mem2 {f g : Nat → Tr → Bool} : ∀ (ts : List Tr) (k : Nat), (∀ t ∈ ts, ∀ j, f j t = true → g j t = true) → okAll f k ts = true → okAll g k ts = true
  | [], _, _, _ => rfl
  | t :: ts, k, h, ho => by
    rw [okAll, Bool.and_eq_true] at ho ⊢
    exact ⟨h t (List.mem_cons_self ..) k ho.1, okAll_mem2 ts (k + 1) (fun u hu => h u (List.mem_cons_of_mem _ hu)) ho.2⟩
theorem depthTs_mem : ∀ (ts : List Tr), ∀ t ∈ ts, depthT t ≤ depthTs ts
  | x :: ts, t, h => by
    rw [depthTs_cons]
    rcases List.mem_cons.1 h with rfl | h
    · omega
    · have := depthTs_mem ts t h; omega
/-- A good tree is good wherever it is as deep as may be. -/
theorem okT_depth : ∀ (d e : Nat) (w : Bool) (t : Tr), okT d w t = true → depthT t ≤ e → okT e w t = true
  | 0, e, w, t, h, _ => by rw [okT] at h; cases h
  | d + 1, e, w, .mk kd n s ks, h, he => by
    rw [depthT_mk] at he
    obtain ⟨e', rfl⟩ : ∃ e', e = e' + 1 := ⟨e - 1, by omega⟩
    rw [okT] at h ⊢
    simp only [Bool.and_eq_true] at h ⊢
    refine ⟨h.1, okAll_mem2 ks 0 (fun t ht j hj => okT_depth d e' _ t hj ?_) h.2⟩
    have := depthTs_mem ks t ht
    omega
/-- The bodies that are known are good. -/
def GoodB (B : Body) : Prop := ∀ s b, B s = some b → ∃ e, okT e false b = true
theorem okAll_frame {d : Nat} {b : Tr} {K : Nat} (hb : okT d false b = true) : ∀ (rest : List Tr) (j k : Nat), k + rest.length + 1 = K → okAll (fun _ t => okT d true t) j rest = true → okAll (fun k t => okT d (takesB 37 (K : Int) (k : Int)) t) k (rest ++ [b]) = true
  | [], j, k, hk, _ => by
    have h : takesB 37 (K : Int) (k : Int) = false := by
      unfold takesB
      simp at hk
      simp
      omega
    rw [List.nil_append, okAll, okAll, Bool.and_true, h]
    exact hb
  | t :: rest, j, k, hk, h => by
    rw [okAll, Bool.and_eq_true] at h
    rw [List.length_cons] at hk
    have h2 : takesB 37 (K : Int) (k : Int) = true := by
      unfold takesB
      simp
      omega
    rw [List.cons_append, okAll, Bool.and_eq_true, h2]
    exact ⟨h.1, okAll_frame hb rest (j + 1) (k + 1) (by omega) h.2⟩
theorem takes21 (K k : Int) : takesB 21 K k = true := by unfold takesB; simp
theorem endI_ok {B : Body} (hB : GoodB B) {d dep : Nat} (hd : d + 1 + dep = 31) {w : Bool} {kd n : Int} {s : List UInt8} {r : List Tr × Nat} (h : okT (d + 1) w (.mk kd n s r.1) = true) : okT (d + 1) w (endI B dep kd n s r).1 = true := by
  obtain ⟨ks, z⟩ := r
  unfold endI
  simp only at h ⊢
  split
  · rename_i b rest hh
    split
    · rename_i hc
      unfold hitI at hh
      split at hh
      · cases hh
      · rename_i k rest'
        split at hh
        · rename_i hk21
          rw [Option.map_eq_some_iff] at hh
          obtain ⟨b', hb', he⟩ := hh
          injection he with he1 he2
          subst he1 he2
          simp only [Bool.and_eq_true, beq_iff_eq] at hk21
          obtain ⟨h21, _⟩ := hk21
          subst h21
          obtain ⟨e, hbe⟩ := hB _ _ hb'
          have hbd := okT_depth e d false b' hbe (by omega)
          rw [okT] at h ⊢
          simp only [Bool.and_eq_true] at h ⊢
          obtain ⟨⟨⟨h1, _⟩, _⟩, h4⟩ := h
          have hw : w = false := by
            cases w with
            | false => rfl
            | true => unfold kindB at h1; simp [wordB] at h1
          subst hw
          refine ⟨⟨⟨rfl, rfl⟩, ?_⟩, ?_⟩
          · unfold childrenB
            simp
            omega
          · have h5 := okAll_mem2 (k :: rest') 0 (g := fun _ t => okT d true t) (fun t _ j hj => by simp only [takes21] at hj; exact hj) h4
            rw [okAll, Bool.and_eq_true] at h5
            have := okAll_frame (K := (rest' ++ [b']).length) hbd rest' 1 0 (by simp) h5.2
            exact this
        · cases hh
    · exact h
  · exact h
mutual
theorem inlT_ok {B : Body} (hB : GoodB B) : ∀ (d dep : Nat) (w : Bool) (t : Tr) (sz : Nat), d + dep = 31 → okT d w t = true → okT d w (inlT B dep t sz).1 = true
  | 0, dep, w, t, sz, _, h => by rw [okT] at h; cases h
  | d + 1, dep, w, .mk kd n s ks, sz, hd, h => by
    rw [inlT_mk]
    refine endI_ok hB (by omega) ?_
    rw [okT] at h ⊢
    simp only [Bool.and_eq_true] at h ⊢
    rw [inlTs_len]
    exact ⟨h.1, inlTs_ok hB d (dep + 1) ks _ 0 sz (by omega) h.2⟩
theorem inlTs_ok {B : Body} (hB : GoodB B) : ∀ (d dep : Nat) (ts : List Tr) (g : Nat → Bool) (k sz : Nat), d + dep = 31 → okAll (fun k t => okT d (g k) t) k ts = true → okAll (fun k t => okT d (g k) t) k (inlTs B dep ts sz).1 = true
  | d, dep, [], g, k, sz, _, _ => by rw [inlTs_nil]; rfl
  | d, dep, t :: ts, g, k, sz, hd, h => by
    rw [okAll, Bool.and_eq_true] at h
    rw [inlTs_cons]
    simp only
    rw [okAll, Bool.and_eq_true]
    exact ⟨inlT_ok hB d dep _ t sz hd h.1, inlTs_ok hB d dep ts g (k + 1) _ hd h.2⟩
end
theorem bodyL_from (L : List Nd) (ks : List Tr) (s : List UInt8) (b : Tr) : bodyL L ks s = some b → ∃ k ∈ ks, k.kids.head? = some b := by
  refine snoc_ind (p := fun ks => bodyL L ks s = some b → ∃ k ∈ ks, k.kids.head? = some b) (fun h => by cases h) (fun l k ih h => ?_) ks
  rw [bodyL_snoc] at h
  split at h
  · replace h : (if s = k.str then k.kids.head? else bodyL L l s) = some b := h
    by_cases hs : s = k.str
    · rw [if_pos hs] at h
      exact ⟨k, List.mem_append_right _ (List.mem_singleton.2 rfl), h⟩
    · rw [if_neg hs] at h
      obtain ⟨k', h1, h2⟩ := ih h
      exact ⟨k', List.mem_append_left _ h1, h2⟩
  · obtain ⟨k', h1, h2⟩ := ih h
    exact ⟨k', List.mem_append_left _ h1, h2⟩
theorem ipass_ok {t : Tr} (h : okT 30 false t = true) : okT 30 false (passI t) = true := by
  unfold passI
  split
  · rename_i hc
    obtain ⟨kd, n, s, ks⟩ := t
    simp only [Bool.and_eq_true, beq_iff_eq] at hc
    have h23 : kd = 23 := hc.1.1
    subst h23
    have h0 := h
    rw [okT] at h
    simp only [Bool.and_eq_true] at h
    obtain ⟨⟨⟨h1, h2⟩, h3⟩, h4⟩ := h
    have ht : ∀ (K k : Int), takesB 23 K k = false := fun K k => by unfold takesB; simp
    have h5 : okAll (fun _ t => okT 29 false t) 0 ks = true := okAll_mem2 ks 0 (fun t _ j hj => by simp only [ht] at hj; exact hj) h4
    have h6 := (okAll_forall ks 0).1 h5
    show okT 30 false (.mk 23 0 [] (leadF ks ++ (inlTs (bodyF (flat (.mk 23 n s ks)) ks) 2 (ks.drop (leadF ks).length) (flat (.mk 23 n s ks)).length).1)) = true
    have hpre : leadF ks = ks.take (leadF ks).length := List.prefix_iff_eq_take.1 (List.takeWhile_prefix _)
    have hlen : (leadF ks ++ (inlTs (bodyF (flat (.mk 23 n s ks)) ks) 2 (ks.drop (leadF ks).length) (flat (.mk 23 n s ks)).length).1).length = ks.length := by
      have := leadF_len ks
      rw [List.length_append, inlTs_len, List.length_drop]
      omega
    have hGB : GoodB (bodyF (flat (.mk 23 n s ks)) ks) := by
      intro s' b hb
      obtain ⟨k, hk, hkh⟩ := bodyL_from _ _ _ _ hb
      have h31 := leadF_kind hk
      have hkm : k ∈ ks := (List.takeWhile_prefix _).subset hk
      have hko := h6 k hkm
      obtain ⟨kd', n', s', ks'⟩ := k
      have h31' : kd' = 31 := h31
      subst h31'
      rw [okT] at hko
      simp only [Bool.and_eq_true] at hko
      cases ks' with
      | nil => cases hkh
      | cons c r =>
        have hcb : c = b := Option.some.inj hkh
        subst hcb
        have h7 := hko.2
        rw [okAll, Bool.and_eq_true] at h7
        exact ⟨28, by simpa [takesB] using h7.1⟩
    rw [okT]
    simp only [Bool.and_eq_true]
    rw [hlen]
    refine ⟨⟨⟨h1, rfl⟩, h3⟩, ?_⟩
    refine okAll_mem2 _ 0 (f := fun _ t => okT 29 false t) (fun t _ j hj => by simp only [ht]; exact hj) ((okAll_forall _ 0).2 fun u hu => ?_)
    rcases List.mem_append.1 hu with hu | hu
    · exact h6 u ((List.takeWhile_prefix _).subset hu)
    · have hd := inlTs_ok hGB 29 2 (ks.drop (leadF ks).length) (fun _ => false) 0 (flat (.mk 23 n s ks)).length rfl ((okAll_forall _ 0).2 fun x hx => h6 x (List.mem_of_mem_drop hx))
      exact (okAll_forall _ 0).1 hd u hu
  · exact h
theorem ipass_size (t : Tr) : (flat (passI t)).length ≤ max (flat t).length 1000 := by
  unfold passI
  split
  · obtain ⟨kd, n, s, ks⟩ := t
    show (flat (.mk 23 0 [] (leadF ks ++ (inlTs (bodyF (flat (.mk kd n s ks)) ks) 2 (ks.drop (leadF ks).length) (flat (.mk kd n s ks)).length).1))).length ≤ _
    obtain ⟨h1, h2, h3⟩ := inlTs_le (bodyF (flat (.mk kd n s ks)) ks) 2 (ks.drop (leadF ks).length) (flat (.mk kd n s ks)).length
    have hpre : leadF ks = ks.take (leadF ks).length := List.prefix_iff_eq_take.1 (List.takeWhile_prefix _)
    have hsum : (flatAll ks).length = (flatAll (leadF ks)).length + (flatAll (ks.drop (leadF ks).length)).length := by
      rw [← List.length_append, ← flatAll_append]
      congr 2
      conv => rhs; rw [hpre]
      rw [List.length_take, Nat.min_eq_left (leadF_len ks), List.take_append_drop]
    have hf : (flat (.mk kd n s ks)).length = 1 + (flatAll ks).length := flat_size ..
    rw [flat_size, flatAll_append, List.length_append]
    generalize (inlTs (bodyF (flat (.mk kd n s ks)) ks) 2 (ks.drop (leadF ks).length) (flat (.mk kd n s ks)).length) = r at *
    generalize (flat (.mk kd n s ks)).length = q at *
    show 1 + ((flatAll (leadF ks)).length + (flatAll r.1).length) ≤ max q 1000
    omega
  · omega
end Go.Proofs.YtpogngdddendiaaDoor
