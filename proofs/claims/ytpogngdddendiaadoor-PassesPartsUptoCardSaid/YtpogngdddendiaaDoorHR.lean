/- Calls made frames, on trees (chapter 19), with no program in sight. No condition. -/
import Derived.Test.YtpogngdddendiaaDoorHE
import Derived.Test.YtpogngdddendiaaDoorHN
import Derived.Test.YtpogngdddendiaaDoorHQ
import Derived.Test.YtpogngdddendiaaDoorHG
import Derived.Test.YtpogngdddendiaaDoorHK
import Derived.Sort.KeysCollected
import Derived.WalkKit
set_option linter.unusedVariables false
set_option linter.unusedSimpArgs false
namespace Go.Proofs.YtpogngdddendiaaDoor

/-- What a name's function does. -/
abbrev Body := List UInt8 → Option Tr
/-- A call of a text of which the command is known. -/
def hitI (B : Body) (kd : Int) (ks : List Tr) : Option (Tr × List Tr) := match ks with
  | [] => none
  | k :: rest => if kd == 21 && k.kind == 1 then (B k.str).map fun b => (b, rest) else none
def endI (B : Body) (d : Nat) (kd n : Int) (s : List UInt8) (r : List Tr × Nat) : Tr × Nat := match hitI B kd r.1 with
  | some (b, rest) => if (flat b).length ≤ 24 ∧ r.2 + ((flat b).length - 1) ≤ 1000 ∧ d + depthT b ≤ 30 then (.mk 37 0 [] (rest ++ [b]), r.2 + ((flat b).length - 1)) else (.mk kd n s r.1, r.2)
  | none => (.mk kd n s r.1, r.2)
mutual
def inlT (B : Body) : Nat → Tr → Nat → Tr × Nat
  | d, .mk kd n s ks, sz => endI B d kd n s (inlTs B (d + 1) ks sz)
def inlTs (B : Body) : Nat → List Tr → Nat → List Tr × Nat
  | _, [], sz => ([], sz)
  | d, t :: ts, sz => ((inlT B d t sz).1 :: (inlTs B d ts (inlT B d t sz).2).1, (inlTs B d ts (inlT B d t sz).2).2)
end
theorem inlT_mk (B : Body) (d : Nat) (kd n : Int) (s : List UInt8) (ks : List Tr) (sz : Nat) : inlT B d (.mk kd n s ks) sz = endI B d kd n s (inlTs B (d + 1) ks sz) := by rw [inlT]
theorem inlTs_nil (B : Body) (d sz : Nat) : inlTs B d [] sz = ([], sz) := by rw [inlTs]
theorem inlTs_cons (B : Body) (d : Nat) (t : Tr) (ts : List Tr) (sz : Nat) : inlTs B d (t :: ts) sz = ((inlT B d t sz).1 :: (inlTs B d ts (inlT B d t sz).2).1, (inlTs B d ts (inlT B d t sz).2).2) := by rw [inlTs]
theorem inlTs_len (B : Body) (d : Nat) : ∀ (ts : List Tr) (sz : Nat), (inlTs B d ts sz).1.length = ts.length
  | [], sz => by rw [inlTs_nil]
  | t :: ts, sz => by rw [inlTs_cons, List.length_cons, List.length_cons, inlTs_len B d ts]
theorem inlTs_snoc (B : Body) (d : Nat) : ∀ (ts : List Tr) (t : Tr) (sz : Nat), inlTs B d (ts ++ [t]) sz = ((inlTs B d ts sz).1 ++ [(inlT B d t (inlTs B d ts sz).2).1], (inlT B d t (inlTs B d ts sz).2).2)
  | [], t, sz => by rw [List.nil_append, inlTs_cons, inlTs_nil, inlTs_nil]; rfl
  | u :: ts, t, sz => by rw [List.cons_append, inlTs_cons, inlTs_cons, inlTs_snoc B d ts t]; rfl
/-- What it may grow to. -/
theorem endI_le (B : Body) (d : Nat) (kd n : Int) (s : List UInt8) (r : List Tr × Nat) (sz m : Nat) (h : (flatAll r.1).length + sz ≤ m + r.2) (h2 : sz ≤ r.2) (h3 : r.2 ≤ max sz 1000) :
    (flat (endI B d kd n s r).1).length + sz ≤ 1 + m + (endI B d kd n s r).2 ∧ sz ≤ (endI B d kd n s r).2 ∧ (endI B d kd n s r).2 ≤ max sz 1000 := by
  obtain ⟨ks, z⟩ := r
  simp only at h h2 h3
  unfold endI
  simp only
  split
  · rename_i b rest hh
    split
    · rename_i hc
      unfold hitI at hh
      split at hh
      · cases hh
      · rename_i k rest' 
        split at hh
        · rw [Option.map_eq_some_iff] at hh
          obtain ⟨b', _, he⟩ := hh
          injection he with he1 he2
          subst he1 he2
          have hp := flat_pos k
          have hb := flat_pos b'
          rw [flatAll_cons, List.length_append] at h
          simp only
          rw [flat_size, flatAll_append, flatAll_cons, flatAll_nil, List.append_nil, List.length_append]
          omega
        · cases hh
    · simp only
      rw [flat_size]
      omega
  · simp only
    rw [flat_size]
    omega
mutual
theorem inlT_le (B : Body) : ∀ (d : Nat) (t : Tr) (sz : Nat), (flat (inlT B d t sz).1).length + sz ≤ (flat t).length + (inlT B d t sz).2 ∧ sz ≤ (inlT B d t sz).2 ∧ (inlT B d t sz).2 ≤ max sz 1000
  | d, .mk kd n s ks, sz => by
    obtain ⟨h1, h2, h3⟩ := inlTs_le B (d + 1) ks sz
    rw [inlT_mk, flat_size]
    exact endI_le B d kd n s _ sz _ h1 h2 h3
theorem inlTs_le (B : Body) : ∀ (d : Nat) (ts : List Tr) (sz : Nat), (flatAll (inlTs B d ts sz).1).length + sz ≤ (flatAll ts).length + (inlTs B d ts sz).2 ∧ sz ≤ (inlTs B d ts sz).2 ∧ (inlTs B d ts sz).2 ≤ max sz 1000
  | d, [], sz => by
    rw [inlTs_nil]
    exact ⟨Nat.le_refl _, Nat.le_refl _, Nat.le_max_left _ _⟩
  | d, t :: ts, sz => by
    obtain ⟨h1, h2, h3⟩ := inlT_le B d t sz
    obtain ⟨g1, g2, g3⟩ := inlTs_le B d ts (inlT B d t sz).2
    rw [inlTs_cons]
    simp only
    rw [flatAll_cons, flatAll_cons, List.length_append, List.length_append]
    refine ⟨by omega, by omega, ?_⟩
    have : max (inlT B d t sz).2 1000 ≤ max sz 1000 := by omega
    omega
end
/-- The functions that stand ahead. -/
def leadF (ks : List Tr) : List Tr := ks.takeWhile fun k => k.kind == 31
def cntF (L : List Nd) (s : List UInt8) : Nat := L.countP fun x => x.kind == 31 && x.s == s
/-- .. those of a name of their own. -/
def ownK (L : List Nd) (ks : List Tr) : List Tr := ks.filter fun k => cntF L k.str == 1
def ownF (L : List Nd) (ks : List Tr) : List Tr := ownK L (leadF ks)
def bodyL (L : List Nd) (ks : List Tr) : Body := ks.foldl (fun B k => if cntF L k.str == 1 then (fun s => if s = k.str then k.kids.head? else B s) else B) (fun _ => none)
def bodyF (L : List Nd) (ks : List Tr) : Body := bodyL L (leadF ks)
theorem bodyL_nil (L : List Nd) : bodyL L [] = fun _ => none := rfl
theorem bodyL_snoc (L : List Nd) (ks : List Tr) (k : Tr) : bodyL L (ks ++ [k]) = if cntF L k.str == 1 then (fun s => if s = k.str then k.kids.head? else bodyL L ks s) else bodyL L ks := by
  unfold bodyL
  rw [List.foldl_append]
  rfl
theorem ownK_snoc (L : List Nd) (ks : List Tr) (k : Tr) : ownK L (ks ++ [k]) = ownK L ks ++ if cntF L k.str == 1 then [k] else [] := by
  unfold ownK
  rw [List.filter_append, List.filter_cons, List.filter_nil]
theorem snoc_ind {α : Type} {p : List α → Prop} (h0 : p []) (h1 : ∀ l x, p l → p (l ++ [x])) (l : List α) : p l := by
  rw [← l.reverse_reverse]
  induction l.reverse with
  | nil => exact h0
  | cons x t ih => rw [List.reverse_cons]; exact h1 _ _ ih
theorem bodyL_some (L : List Nd) (ks : List Tr) (h : ∀ k ∈ ks, k.kids ≠ []) (s : List UInt8) : (bodyL L ks s).isSome = decide (s ∈ (ownK L ks).map Tr.str) := by
  revert h
  refine snoc_ind (p := fun ks => (∀ k ∈ ks, k.kids ≠ []) → (bodyL L ks s).isSome = decide (s ∈ (ownK L ks).map Tr.str)) (fun _ => rfl) (fun l k ih h => ?_) ks
  have ih' := ih fun k hk => h k (List.mem_append_left _ hk)
  rw [bodyL_snoc, ownK_snoc]
  cases hc : (cntF L k.str == 1)
  · rw [if_neg Bool.noConfusion, if_neg Bool.noConfusion, List.append_nil]
    exact ih'
  · rw [if_pos rfl, if_pos rfl, List.map_append, List.map_cons, List.map_nil]
    by_cases hs : s = k.str
    · rw [if_pos hs]
      have hk := h k (List.mem_append_right _ (List.mem_singleton.2 rfl))
      cases hkk : k.kids with
      | nil => exact absurd hkk hk
      | cons x t => simp [hs]
    · rw [if_neg hs, ih']
      simp [hs]
theorem bodyL_empty (L : List Nd) (ks : List Tr) : ownK L ks = [] → bodyL L ks = fun _ => none := by
  refine snoc_ind (p := fun ks => ownK L ks = [] → bodyL L ks = fun _ => none) (fun _ => rfl) (fun l k ih h => ?_) ks
  rw [ownK_snoc] at h
  have h1 := List.append_eq_nil_iff.1 h
  rw [bodyL_snoc]
  cases hc : (cntF L k.str == 1)
  · rw [if_neg Bool.noConfusion]
    exact ih h1.1
  · rw [hc, if_pos rfl] at h1
    cases h1.2
theorem leadF_len (ks : List Tr) : (leadF ks).length ≤ ks.length := (List.takeWhile_prefix _).length_le
theorem mem_tw {α : Type} {p : α → Bool} : ∀ {l : List α} {x : α}, x ∈ l.takeWhile p → p x = true
  | [], x, h => by simp at h
  | y :: l, x, h => by
    rw [List.takeWhile_cons] at h
    split at h
    · rename_i hy
      rcases List.mem_cons.1 h with rfl | h
      · exact hy
      · exact mem_tw h
    · cases h
theorem leadF_kind {ks : List Tr} {k : Tr} (h : k ∈ leadF ks) : k.kind = 31 := by
  have := mem_tw h
  simpa using this
/-- The passed program. -/
def passI (t : Tr) : Tr := if t.kind == 23 && !((flat t).any fun x => x.kind == 36) && !(ownF (flat t) t.kids).isEmpty then
    .mk 23 0 [] (leadF t.kids ++ (inlTs (bodyF (flat t) t.kids) 2 (t.kids.drop (leadF t.kids).length) (flat t).length).1)
  else t
/- Each call has a word. -/
mutual
def callK : Tr → Bool
  | .mk kd _ _ ks => (kd != 21 || decide (1 ≤ ks.length)) && callKs ks
def callKs : List Tr → Bool
  | [] => true
  | t :: ts => callK t && callKs ts
end
theorem callK_mk (kd n : Int) (s : List UInt8) (ks : List Tr) : callK (.mk kd n s ks) = ((kd != 21 || decide (1 ≤ ks.length)) && callKs ks) := by rw [callK]
theorem callKs_nil : callKs [] = true := by rw [callKs]
theorem callKs_cons (t : Tr) (ts : List Tr) : callKs (t :: ts) = (callK t && callKs ts) := by rw [callKs]
theorem callKs_all : ∀ ts : List Tr, callKs ts = true ↔ ∀ t ∈ ts, callK t = true
  | [] => by simp [callKs_nil]
  | t :: ts => by rw [callKs_cons, Bool.and_eq_true, callKs_all ts]; simp
theorem callKs_ok {d : Nat} {g : Nat → Bool} (ih : ∀ (w : Bool) (t : Tr), okT d w t = true → callK t = true) : ∀ (ks : List Tr) (k : Nat), okAll (fun k t => okT d (g k) t) k ks = true → callKs ks = true
  | [], k, _ => callKs_nil
  | t :: ts, k, h => by
    rw [okAll, Bool.and_eq_true] at h
    rw [callKs_cons, ih _ _ h.1, callKs_ok ih ts (k + 1) h.2]
    rfl
theorem callK_ok : ∀ (d : Nat) (w : Bool) (t : Tr), okT d w t = true → callK t = true
  | 0, w, t, h => by rw [okT] at h; cases h
  | d + 1, w, .mk kd n s ks, h => by
    rw [okT] at h
    simp only [Bool.and_eq_true] at h
    rw [callK_mk, callKs_ok (fun w t h => callK_ok d w t h) ks 0 h.2, Bool.and_true]
    by_cases hk : kd = 21
    · have h1 := h.1.2
      rw [hk] at h1
      simp [childrenB] at h1
      simp [hk]
      omega
    · simp [hk]
end Go.Proofs.YtpogngdddendiaaDoor

/- A row of nodes lies apart from a small block; what a map of functions holds; both stay where only that block changes. No condition. -/
set_option linter.unusedVariables false
set_option linter.unusedSimpArgs false
namespace Go.Proofs.YtpogngdddendiaaDoor
open Go.RowKit Go.Maps

theorem RdL.apart5 {w : World} {b o : Nat} {L : List Nd} (h : RdL w 5 ndc (some ⟨b, o, none⟩) L) (hL : 0 < L.length) {g : Nat} {t : TypeId} {cs : Array Value} (hg : Blk w g t cs) (hc : cs.size ≤ 4) : b ≠ g := by
  rintro rfl
  have h4 := (h.at_ hL).2 4 _ rfl
  rw [hg.cell, Array.getElem?_eq_none (by omega)] at h4
  cases h4
theorem SlRd.but {w w' : World} {v : Value} {L : List Nd} (h : SlRd w v L) {B : Nat} {t : TypeId} {cs : Array Value} (hg : Blk w B t cs) (hc : cs.size ≤ 4) (hb : But B w w') : SlRd w' v L := by
  obtain ⟨A, c, rfl, hrd, h2⟩ := h
  refine ⟨A, c, rfl, fun k hk => ?_, h2⟩
  obtain ⟨b, o, rfl, hlt, hcell⟩ := hrd k hk
  have hne := hrd.apart5 (by omega) hg hc
  exact ⟨b, o, rfl, Nat.lt_of_lt_of_le hlt hb.size, fun j u hu => hb.cell (hcell j u hu) hne⟩
/-- .. and of a map's block. -/
theorem SlRd.butMap {w w' : World} {v : Value} {L : List Nd} (h : SlRd w v L) {B : Nat} {es : Array MapEntry} {ck : Nat} (hg : w.heap[B]? = some (.map es ck)) (hb : But B w w') : SlRd w' v L := by
  obtain ⟨A, c, rfl, hrd, h2⟩ := h
  refine ⟨A, c, rfl, fun k hk => ?_, h2⟩
  obtain ⟨b, o, rfl, hlt, hcell⟩ := hrd k hk
  have hne : b ≠ B := by
    rintro rfl
    have h4 := hcell 4 _ rfl
    simp only [World.cell?, hg] at h4
    cases h4
  exact ⟨b, o, rfl, Nat.lt_of_lt_of_le hlt hb.size, fun j u hu => hb.cell (hcell j u hu) hne⟩
theorem OwnAll.but {w w' : World} {base : Nat} {vs : List Value} {ls : List (List Nd)} (h : OwnAll w base vs ls) {B : Nat} {t : TypeId} {cs : Array Value} (hg : Blk w B t cs) (hn : 98 ≠ t) (hb : But B w w') : OwnAll w' base vs ls :=
  ⟨h.1, fun i hi v hv => own_but (h.2 i hi v hv) hb hg hn⟩
theorem OwnAll.setI {w : World} {base : Nat} {vs : List Value} {ls : List (List Nd)} (h : OwnAll w base vs ls) (i : Nat) {v : Value} {L : List Nd} (hv : w.ownsRow base 98 5 v L.length (L.flatMap ndc)) : OwnAll w base (vs.set i v) (ls.set i L) := by
  refine ⟨by simp [h.1], fun j hj u hu => ?_⟩
  rw [List.length_set] at hj
  by_cases hij : i = j
  · subst hij
    rw [List.getElem?_set_self (by rw [h.1]; exact hj)] at hu
    injection hu with hu
    subst hu
    rw [List.getElem_set_self]
    exact hv
  · rw [List.getElem?_set_ne hij] at hu
    rw [List.getElem_set_ne hij]
    exact h.2 j hj u hu

/-- A map of functions: it holds at each name the row of its command. -/
def bodR (w : World) (v : Value) (b : Tr) : Prop := SlRd w v (flat b)
abbrev BodR (w : World) (mb N : Nat) (B : Body) : Prop := MapR bodR w mb N B
theorem BodR.below' {w w' : World} {mb N : Nat} {B : Body} (h : BodR w mb N B) (hb : Below w.heap.size w w') : BodR w' mb N B := MapR.below h hb fun v x hx => SlRd.below hx hb
theorem BodR.but {w w' : World} {mb N g : Nat} {B : Body} (h : BodR w mb N B) {t : TypeId} {cs : Array Value} (hg : Blk w g t cs) (hc : cs.size ≤ 4) (hb : But g w w') : BodR w' mb N B :=
  MapR.keep h (hb.block mb (MapR.lt h) (MapR.notCells h hg)) fun v x hx => SlRd.but hx hg hc hb
theorem MapIs.isMap {P : Program} {k : TypeId} {w : World} {b n : Nat} {f : List UInt8 → Option Value} (h : MapIs P k w b n f) : ∃ es ck, w.heap[b]? = some (.map es ck) := by
  obtain ⟨D, ⟨es, clock, h1, _⟩, _⟩ := h
  exact ⟨es, clock, h1⟩
theorem MapR.isMap {α : Type} {R : World → Value → α → Prop} {w : World} {b N : Nat} {B : List UInt8 → Option α} (h : MapR R w b N B) : ∃ es ck, w.heap[b]? = some (.map es ck) :=
  let ⟨F, h1, _⟩ := h
  h1.isMap
theorem BodR.put' {w : World} {mb N : Nat} {B : Body} {t e : TypeId} (h : BodR w mb N B) (ht : Tryd.prog.underlying t = some (.map 9 e)) (hn : N < maxLen) {s : List UInt8} (hs : s.length ≤ maxLen) {v : Value} {x : Tr} (hv : SlRd w v (flat x)) :
    ∃ w', (Instr.mapUpdate t (.map (some mb)) (.string ⟨s.toArray⟩) v).run Tryd.prog w = .ok () w' ∧ BodR w' mb (N + 1) (fun y => if y = s then some x else B y) ∧ But mb w w' := by
  obtain ⟨es, ck, hm⟩ := MapR.isMap h
  exact MapR.put h ht hn hs hv fun w' v x hb hx => SlRd.butMap hx hm hb
theorem own_butMap {w w' : World} {base : Nat} {e : TypeId} {sz n : Nat} {v : Value} {xs : List Value} (h : w.ownsRow base e sz v n xs) {B : Nat} {es : Array MapEntry} {ck : Nat} (hm : w.heap[B]? = some (.map es ck)) (hb : But B w w') : w'.ownsRow base e sz v n xs := by
  refine ⟨h.1, ?_⟩
  rcases h.2 with hn' | ⟨g, cap, cur, rfl, hb', hg, rest⟩
  · exact .inl hn'
  · refine .inr ⟨g, cap, cur, rfl, hb', (hb.block g (Array.getElem?_eq_some_iff.1 hg).1 ?_).trans hg, rest⟩
    rintro rfl
    rw [hm] at hg
    cases hg
theorem own_notMap {w : World} {base : Nat} {e : TypeId} {sz n c : Nat} {g : Nat} {xs : List Value} (h : w.ownsRow base e sz (.slice (some ⟨g, 0, none⟩) n c) n xs) {B : Nat} {es : Array MapEntry} {ck : Nat} (hm : w.heap[B]? = some (.map es ck)) : g ≠ B := by
  rintro rfl
  rcases h.2 with ⟨h', _⟩ | ⟨g', cap, cur, h', hb', hg, rest⟩
  · simp at h'
  · simp only [Value.slice.injEq, Option.some.injEq, Addr.mk.injEq, and_true, true_and] at h'
    obtain ⟨rfl, rfl⟩ := h'
    rw [hm] at hg
    cases hg
theorem cell_notMap {w : World} {p : Addr} {v : Value} (h : w.cell? p = some v) {B : Nat} {es : Array MapEntry} {ck : Nat} (hm : w.heap[B]? = some (.map es ck)) : p.block ≠ B := by
  rintro rfl
  simp only [World.cell?, hm] at h
  cases h
theorem flat_kid {t k : Tr} {x : Nd} (hk : k ∈ t.kids) (hx : x ∈ flat k) : x ∈ flat t := by
  obtain ⟨kd, n, s, ks⟩ := t
  rw [flat_mk]
  refine List.mem_cons_of_mem _ ?_
  rw [← flatAll_flatten]
  exact List.mem_flatten.2 ⟨_, List.mem_map.2 ⟨k, hk, rfl⟩, hx⟩
end Go.Proofs.YtpogngdddendiaaDoor

/- Texts put in order one by one are the texts in order. No condition. -/
set_option linter.unusedVariables false
set_option linter.unusedSimpArgs false
namespace Go.Proofs.YtpogngdddendiaaDoor
open Go.Sort

/-- One text put in its place. -/
def insB (x : List UInt8) : List (List UInt8) → List (List UInt8)
  | [] => [x]
  | y :: t => if y < x then y :: insB x t else x :: y :: t
theorem insB_perm (x : List UInt8) : ∀ l, (insB x l).Perm (x :: l)
  | [] => List.Perm.refl _
  | y :: t => by
    rw [insB]
    split
    · exact ((insB_perm x t).cons y).trans (List.Perm.swap x y t)
    · exact List.Perm.refl _
theorem insB_mem (x : List UInt8) (l : List (List UInt8)) (z : List UInt8) : z ∈ insB x l ↔ z = x ∨ z ∈ l := by
  rw [(insB_perm x l).mem_iff, List.mem_cons]
theorem insB_sorted (x : List UInt8) : ∀ l : List (List UInt8), l.Pairwise (fun a b => leB a b = true) → (insB x l).Pairwise (fun a b => leB a b = true)
  | [], _ => List.pairwise_singleton _ _
  | y :: t, h => by
    rw [insB]
    rw [List.pairwise_cons] at h
    split
    · rename_i hlt
      rw [List.pairwise_cons]
      refine ⟨fun z hz => ?_, insB_sorted x t h.2⟩
      rw [insB_mem] at hz
      rcases hz with rfl | hz
      · exact decide_eq_true (List.le_of_lt hlt)
      · exact h.1 z hz
    · rename_i hlt
      rw [List.pairwise_cons, List.pairwise_cons]
      have hxy : leB x y = true := decide_eq_true (List.not_lt.1 hlt)
      refine ⟨fun z hz => ?_, h.1, h.2⟩
      rcases List.mem_cons.1 hz with rfl | hz
      · exact hxy
      · have h1 := h.1 z hz
        simp only [leB, decide_eq_true_eq] at hxy h1 ⊢
        exact List.le_trans hxy h1
theorem sort_unique {l l' : List (List UInt8)} (h : l.Perm l') (hs : l.Pairwise (fun a b => leB a b = true)) (hs' : l'.Pairwise (fun a b => leB a b = true)) : l = l' :=
  List.Perm.eq_of_pairwise (le := fun a b => leB a b = true) (fun a b _ _ h1 h2 => by
    simp only [leB, decide_eq_true_eq] at h1 h2
    exact List.le_antisymm h1 h2) hs hs' h
theorem sort_sorted (l : List (List UInt8)) : (l.mergeSort leB).Pairwise (fun a b => leB a b = true) := by
  refine List.pairwise_mergeSort (fun a b c h1 h2 => ?_) (fun a b => ?_) l
  · simp only [leB, decide_eq_true_eq] at *
    exact List.le_trans h1 h2
  · simp only [leB, Bool.or_eq_true, decide_eq_true_eq]
    exact List.le_total a b
/-- Put in one by one, from an empty list. -/
def insAll (l : List (List UInt8)) : List (List UInt8) := l.foldl (fun acc x => insB x acc) []
theorem insAll_snoc (l : List (List UInt8)) (x : List UInt8) : insAll (l ++ [x]) = insB x (insAll l) := by
  unfold insAll
  rw [List.foldl_append]
  rfl
theorem foldl_ins : ∀ (l acc : List (List UInt8)), acc.Pairwise (fun a b => leB a b = true) → (l.foldl (fun acc x => insB x acc) acc).Pairwise (fun a b => leB a b = true) ∧ (l.foldl (fun acc x => insB x acc) acc).Perm (l ++ acc)
  | [], acc, h => ⟨h, List.Perm.refl _⟩
  | x :: l, acc, h => by
    obtain ⟨h1, h2⟩ := foldl_ins l (insB x acc) (insB_sorted x acc h)
    refine ⟨h1, h2.trans ?_⟩
    exact ((List.Perm.append_left l (insB_perm x acc))).trans (List.perm_middle)
theorem insAll_sort (l : List (List UInt8)) : insAll l = l.mergeSort leB := by
  obtain ⟨h1, h2⟩ := foldl_ins l [] List.Pairwise.nil
  rw [List.append_nil] at h2
  exact sort_unique (h2.trans (List.mergeSort_perm l leB).symm) h1 (sort_sorted l)
end Go.Proofs.YtpogngdddendiaaDoor

/- Which functions are known (chapter 19): each once; with no program in sight. No condition. -/
set_option linter.unusedVariables false
set_option linter.unusedSimpArgs false
namespace Go.Proofs.YtpogngdddendiaaDoor
open Go.Sort

theorem cntF_append (a b : List Nd) (s : List UInt8) : cntF (a ++ b) s = cntF a s + cntF b s := by
  unfold cntF
  rw [List.countP_append]
theorem cnt_kids (s : List UInt8) : ∀ ks : List Tr, (ks.countP fun k => k.kind == 31 && k.str == s) ≤ cntF (flatAll ks) s
  | [] => Nat.zero_le _
  | k :: ks => by
    have ih := cnt_kids s ks
    rw [flatAll_cons, cntF_append, List.countP_cons]
    obtain ⟨r, hr⟩ := flat_head k
    rw [hr]
    unfold cntF at ih ⊢
    rw [List.countP_cons]
    simp only
    split <;> omega
theorem cnt_tree (t : Tr) (s : List UInt8) : (t.kids.countP fun k => k.kind == 31 && k.str == s) ≤ cntF (flat t) s := by
  cases t with
  | mk kd n s' ks =>
    have h := cnt_kids s ks
    rw [flat_mk]
    unfold cntF at h ⊢
    rw [List.countP_cons]
    simp only [Tr.kids]
    omega
theorem own_sub (L : List Nd) (ks : List Tr) : (ownF L ks).Sublist ks := List.filter_sublist.trans (List.takeWhile_prefix _).sublist
theorem own_mem {L : List Nd} {ks : List Tr} {k : Tr} (h : k ∈ ownF L ks) : k ∈ ks ∧ k.kind = 31 ∧ cntF L k.str = 1 := by
  have h1 := (own_sub L ks).subset h
  unfold ownF ownK at h
  rw [List.mem_filter] at h
  exact ⟨h1, leadF_kind h.1, by simpa using h.2⟩
theorem own_nodup (t : Tr) : ((ownF (flat t) t.kids).map Tr.str).Nodup := by
  rw [List.nodup_iff_count]
  intro a
  rw [List.count, List.countP_map]
  by_cases h0 : (ownF (flat t) t.kids).countP ((fun x => x == a) ∘ Tr.str) = 0
  · omega
  · have hpos : 0 < (ownF (flat t) t.kids).countP ((fun x => x == a) ∘ Tr.str) := by omega
    obtain ⟨k, hk, hka⟩ := List.countP_pos_iff.1 hpos
    obtain ⟨_, _, hc⟩ := own_mem hk
    have hka' : k.str = a := by simpa using hka
    rw [hka'] at hc
    have h1 : (ownF (flat t) t.kids).countP ((fun x => x == a) ∘ Tr.str) = (ownF (flat t) t.kids).countP (fun k => k.kind == 31 && k.str == a) := by
      refine List.countP_congr fun k hk => ?_
      obtain ⟨_, h31, _⟩ := own_mem hk
      simp [h31]
    have h2 := (own_sub (flat t) t.kids).countP_le (p := fun k => k.kind == 31 && k.str == a)
    have h3 := cnt_tree t a
    omega
theorem lead_at : ∀ (ks : List Tr) (k : Nat) (hk : k ≤ ks.length), (∀ j (h : j < k), (ks[j]'(by omega)).kind = 31) → (∀ h : k < ks.length, ks[k].kind ≠ 31) → leadF ks = ks.take k
  | [], k, hk, _, _ => by
    obtain rfl : k = 0 := by simpa using hk
    rfl
  | t :: ks, 0, hk, _, h2 => by
    have := h2 (by simp)
    simp only [List.getElem_cons_zero] at this
    unfold leadF
    rw [List.takeWhile_cons, if_neg (by simpa using this), List.take_zero]
  | t :: ks, k + 1, hk, h1, h2 => by
    have h0 := h1 0 (by omega)
    simp only [List.getElem_cons_zero] at h0
    have ih := lead_at ks k (by simpa using hk) (fun j h => by have := h1 (j + 1) (by omega); simpa using this) (fun h => by have := h2 (by simpa using h); simpa using this)
    unfold leadF at ih ⊢
    rw [List.takeWhile_cons, if_pos (by simpa using h0), ih, List.take_succ_cons]
theorem okAll_ex {f : Nat → Tr → Bool} : ∀ (ts : List Tr) (k : Nat), okAll f k ts = true → ∀ t ∈ ts, ∃ k, f k t = true
  | [], k, _, t, h => by cases h
  | u :: ts, k, ho, t, h => by
    rw [okAll, Bool.and_eq_true] at ho
    rcases List.mem_cons.1 h with rfl | h
    · exact ⟨k, ho.1⟩
    · exact okAll_ex ts (k + 1) ho.2 t h
theorem kids_one {k : Int} {ks : List Tr} (h : childrenB k ks.length = true) (hk : k = 31) : ∃ c, ks = [c] := by
  subst hk
  simp [childrenB] at h
  match ks, h with
  | [c], _ => exact ⟨c, rfl⟩
theorem fun_kid {t : Tr} (h : okT 30 false t = true) : ∀ k ∈ t.kids, k.kind = 31 → ∃ c, k.kids = [c] := by
  intro k hk h31
  obtain ⟨kd, n, s, ks⟩ := t
  rw [okT] at h
  simp only [Bool.and_eq_true] at h
  obtain ⟨i, hi⟩ := okAll_ex ks 0 h.2 k hk
  obtain ⟨kd', n', s', ks'⟩ := k
  rw [okT] at hi
  simp only [Bool.and_eq_true] at hi
  exact kids_one hi.1.2 h31
/-- How often a name is there so far. -/
def cntV (L : List Nd) (s : List UInt8) : Option Value := if cntF L s = 0 then none else some (.int .i64 (cntF L s))
theorem cntV_get (L : List Nd) (s : List UInt8) : (cntV L s).getD (.int .i64 0) = .int .i64 (cntF L s) := by
  unfold cntV
  split
  · rename_i h; rw [h]; rfl
  · rfl
theorem cntV_snoc (L : List Nd) (x : Nd) (s : List UInt8) : cntV (L ++ [x]) s = if x.kind = 31 ∧ s = x.s then some (.int .i64 ((cntF L x.s : Int) + 1)) else cntV L s := by
  unfold cntV
  rw [cntF_append]
  have h1 : cntF [x] s = if x.kind = 31 ∧ s = x.s then 1 else 0 := by
    unfold cntF
    rw [List.countP_cons, List.countP_nil, Nat.zero_add]
    by_cases h : x.kind = 31 ∧ s = x.s
    · rw [if_pos h, if_pos (by simp [h.1, h.2])]
    · rw [if_neg h, if_neg]
      intro hc
      rw [Bool.and_eq_true, beq_iff_eq, beq_iff_eq] at hc
      exact h ⟨hc.1, hc.2.symm⟩
  rw [h1]
  by_cases h : x.kind = 31 ∧ s = x.s
  · rw [if_pos h, if_pos h, if_neg (by omega), ← h.2]
    simp
  · rw [if_neg h, if_neg h, Nat.add_zero]
theorem cntF_le (L : List Nd) (s : List UInt8) : cntF L s ≤ L.length := List.countP_le_length
end Go.Proofs.YtpogngdddendiaaDoor
