/- The document's store in memory: its block, its rows of variables and functions; what stands while only these change. No condition. -/
import Derived.Test.YtcnkljbckpkgcaaStoW4
set_option linter.unusedVariables false
set_option linter.unusedSimpArgs false
namespace Go.Proofs.Ytcnkljbckpkgcaa
open Go.RowKit Go.Maps Go.Sort
variable {X : Nat → Prop} {α : Type}

/-- Cells of names, each with a value that stands for what the list says. -/
def AllG (R : World → Value → α → Prop) (w : World) (vs : List (Txt × Value)) (M : List (Txt × α)) : Prop := vs.length = M.length ∧ ∀ i (h : i < vs.length) (h2 : i < M.length), vs[i].1 = M[i].1 ∧ R w vs[i].2 M[i].2
theorem AllG.mono {R R' : World → Value → α → Prop} {w w' : World} {vs : List (Txt × Value)} {M : List (Txt × α)} (h : AllG R w vs M) (hR : ∀ v l, R w v l → R' w' v l) : AllG R' w' vs M :=
  ⟨h.1, fun i h1 h2 => ⟨(h.2 i h1 h2).1, hR _ _ (h.2 i h1 h2).2⟩⟩
theorem AllG.nil (R : World → Value → α → Prop) (w : World) : AllG R w [] [] := ⟨rfl, fun i h => absurd h (Nat.not_lt_zero _)⟩
theorem AllG.snoc {R : World → Value → α → Prop} {w : World} {vs : List (Txt × Value)} {M : List (Txt × α)} (h : AllG R w vs M) {n : Txt} {v : Value} {l : α} (hv : R w v l) : AllG R w (vs ++ [(n, v)]) (M ++ [(n, l)]) := by
  refine ⟨by simp [h.1], fun i h1 h2 => ?_⟩
  by_cases hlt : i < vs.length
  · simp only [List.getElem_append_left hlt, List.getElem_append_left (show i < M.length by rw [← h.1]; exact hlt)]
    exact h.2 i hlt _
  · have he : i = vs.length := by simp at h1; omega
    subst he
    have e1 : (vs ++ [(n, v)])[vs.length]'h1 = (n, v) := by simp
    have e2 : (M ++ [(n, l)])[vs.length]'h2 = (n, l) := by
      rw [List.getElem_append_right (by rw [h.1]; exact Nat.le_refl _)]
      simp [h.1]
    rw [e1, e2]
    exact ⟨rfl, hv⟩
theorem AllG.append {R : World → Value → α → Prop} {w : World} {vs us : List (Txt × Value)} {M L : List (Txt × α)} (h : AllG R w vs M) (k : AllG R w us L) : AllG R w (vs ++ us) (M ++ L) := by
  refine ⟨by simp [h.1, k.1], fun i h1 h2 => ?_⟩
  by_cases hlt : i < vs.length
  · simp only [List.getElem_append_left hlt, List.getElem_append_left (show i < M.length by rw [← h.1]; exact hlt)]
    exact h.2 i hlt _
  · rw [List.getElem_append_right (by omega), List.getElem_append_right (by rw [← h.1]; omega)]
    have := k.2 (i - vs.length) (by simp at h1; omega) (by simp at h2; have := h.1; omega)
    simpa only [h.1] using this
theorem AllG.take {R : World → Value → α → Prop} {w : World} {vs : List (Txt × Value)} {M : List (Txt × α)} (h : AllG R w vs M) (k : Nat) : AllG R w (vs.take k) (M.take k) :=
  ⟨by simp [h.1], fun i h1 h2 => by
    have a := h.2 i (by simp at h1; omega) (by simp at h2; omega)
    simpa only [List.getElem_take] using a⟩
theorem AllG.drop {R : World → Value → α → Prop} {w : World} {vs : List (Txt × Value)} {M : List (Txt × α)} (h : AllG R w vs M) (k : Nat) : AllG R w (vs.drop k) (M.drop k) :=
  ⟨by simp [h.1], fun i h1 h2 => by
    have a := h.2 (k + i) (by simp at h1; omega) (by simp at h2; omega)
    simpa only [List.getElem_drop] using a⟩
/-- A row of such cells that the code has laid itself, in none of the blocks X. -/
def OG (X : Nat → Prop) (R : World → Value → α → Prop) (T : TypeId) (w : World) (v : Value) (M : List (Txt × α)) : Prop :=
  ∃ A c vs, v = .slice A M.length c ∧ w.ownsRow 0 T 2 (.slice A M.length c) M.length (vs.flatMap valc) ∧ AllG R w vs M ∧ Apt X v
theorem OG.nil (R : World → Value → α → Prop) (T : TypeId) (w : World) : OG X R T w (.slice none 0 0) [] := ⟨none, 0, [], rfl, World.ownsRow_nil _ _ _ _, AllG.nil _ _, fun b o s n c e => by cases e⟩
theorem OG.form {R : World → Value → α → Prop} {T : TypeId} {w : World} {v : Value} {M : List (Txt × α)} (h : OG X R T w v M) : ∃ A c, v = .slice A M.length c := let ⟨A, c, vs, h1, _⟩ := h; ⟨A, c, h1⟩
theorem OG.keep {R R' : World → Value → α → Prop} {T : TypeId} {w w' : World} {v : Value} {M : List (Txt × α)} (h : OG X R T w v M) (hr : ∀ (u : Value) (n : Nat) (xs : List Value), Apt X u → w.ownsRow 0 T 2 u n xs → w'.ownsRow 0 T 2 u n xs) (hR : ∀ v x, R w v x → R' w' v x) : OG X R' T w' v M :=
  let ⟨A, c, vs, h1, h2, h3, h4⟩ := h
  ⟨A, c, vs, h1, hr _ _ _ (h1 ▸ h4) h2, h3.mono hR, h4⟩
theorem OG.below {R : World → Value → α → Prop} {T : TypeId} {w w' : World} {v : Value} {M : List (Txt × α)} (h : OG X R T w v M) (hb : Below w.heap.size w w') (hR : ∀ v x, R w v x → R w' v x) : OG X R T w' v M :=
  h.keep (fun u n xs _ hu => own_below hu hb) hR
theorem OG.butX {R : World → Value → α → Prop} {T : TypeId} {w w' : World} {v : Value} {M : List (Txt × α)} (h : OG X R T w v M) (hb : ButX X w w') (hR : ∀ v x, R w v x → R w' v x) : OG X R T w' v M :=
  h.keep (fun u n xs ha hu => own_butX hu hb fun b hy o s n c e => ha b o s n c e hy) hR
theorem OG.butS {R : World → Value → α → Prop} {T : TypeId} {w w' : World} {v : Value} {M : List (Txt × α)} (h : OG X R T w v M) {st vb fb : Nat} (hs : StoS w st vb fb) (hb : ButS [st, vb, fb] w w') (hT : T ≠ 51) (hR : ∀ v x, R w v x → R w' v x) : OG X R T w' v M :=
  h.keep (fun u n xs ha hu => own_butS hu hs hb hT) hR
theorem own_blk {w w' : World} {B : Nat} {e : TypeId} {sz n : Nat} {v : Value} {xs : List Value} (h : w.ownsRow B e sz v n xs) {g : Nat} (hb : But g w w') {t : TypeId} {cs : Array Value} (hg : Blk w g t cs) (he : e ≠ t) : w'.ownsRow B e sz v n xs := by
  refine ⟨h.1, ?_⟩
  rcases h.2 with hn' | ⟨g', cap, cur, rfl, hb', hg', rest⟩
  · exact .inl hn'
  · refine .inr ⟨g', cap, cur, rfl, hb', (hb.block g' (Array.getElem?_eq_some_iff.1 hg').1 fun e' => ?_).trans hg', rest⟩
    subst e'
    unfold Blk at hg
    rw [hg'] at hg
    injection hg with hg
    injection hg with _ h5
    exact he h5
theorem OT.but {w w' : World} {v : Value} {L : List Txt} (h : OT X w v L) {g : Nat} (hb : But g w w') {t : TypeId} {cs : Array Value} (hg : Blk w g t cs) (he : 9 ≠ t) : OT X w' v L :=
  let ⟨⟨A, c, h1, h2⟩, h3⟩ := h
  ⟨⟨A, c, h1, own_blk h2 hb hg he⟩, h3⟩
theorem ON.but {w w' : World} {v : Value} {L : List Nd} (h : ON X w v L) {g : Nat} (hb : But g w w') {t : TypeId} {cs : Array Value} (hg : Blk w g t cs) (he : 58 ≠ t) : ON X w' v L :=
  let ⟨⟨A, c, h1, h2⟩, h3⟩ := h
  ⟨⟨A, c, h1, own_blk h2 hb hg he⟩, h3⟩
theorem OG.but {R : World → Value → α → Prop} {T : TypeId} {w w' : World} {v : Value} {M : List (Txt × α)} (h : OG X R T w v M) {g : Nat} (hb : But g w w') {t : TypeId} {cs : Array Value} (hg : Blk w g t cs) (he : T ≠ t) (hR : ∀ v x, R w v x → R w' v x) : OG X R T w' v M :=
  h.keep (fun u n xs ha hu => own_blk hu hb hg he) hR
theorem OG.rd {R : World → Value → α → Prop} {T : TypeId} {w : World} {v : Value} {M : List (Txt × α)} (h : OG X R T w v M) : ∃ A c vs, v = .slice A M.length c ∧ RdL w 2 valc A vs ∧ AllG R w vs M ∧ (A = none → c = 0) ∧ M.length ≤ c ∧ c ≤ maxLen := by
  obtain ⟨A, c, vs, rfl, ho, ha, _⟩ := h
  obtain ⟨A', c', he, h1, h2, h3, h4⟩ := RdL.of_own valc_len ho ha.1.symm
  injection he with he1 _ he3
  subst he1 he3
  exact ⟨A, c, vs, rfl, h3, ha, h4, h1, h2⟩
theorem OG.new {R R' : World → Value → α → Prop} {T : TypeId} {w : World} {v : Value} {M : List (Txt × α)} (h : OG X R T w v M) {Y : Nat → Prop} (hY : ∀ b, Y b → w.heap.size ≤ b) (hR : ∀ v x, R w v x → R' w v x) : OG Y R' T w v M :=
  let ⟨A, c, vs, h1, h2, h3, h4⟩ := h
  ⟨A, c, vs, h1, h2, h3.mono hR, fun b o s n c' e hb => absurd (own_apt h2 b o s n c' (h1.symm.trans e)).2 (Nat.not_lt.2 (hY b hb))⟩

/-- The document's store in memory is x, its functions F. -/
structure DocI (X : Nat → Prop) (w : World) (xb : Nat) (x : Sto) (F : List (Txt × List Nd)) : Prop where
  blk : ∃ vv va vf, Blk w xb 32 #[vv, va, vf] ∧ OG X (OT X) 34 w vv x.vars ∧ OT X w va x.args ∧ OG X (ON X) 69 w vf F
  sv : SortA x.vars
  sf : SortA F
  lo : ∀ b, X b → b < w.heap.size
theorem DocI.below {w w' : World} {xb : Nat} {x : Sto} {F : List (Txt × List Nd)} (h : DocI X w xb x F) (hb : Below w.heap.size w w') : DocI X w' xb x F :=
  ⟨let ⟨vv, va, vf, h1, h2, h3, h4⟩ := h.blk; ⟨vv, va, vf, h1.below hb, h2.below hb fun v x h => OT.below h hb, h3.below hb, h4.below hb fun v x h => ON.below h hb⟩, h.sv, h.sf, fun b hX => Nat.lt_of_lt_of_le (h.lo b hX) hb.size⟩
theorem DocI.butX {w w' : World} {xb : Nat} {x : Sto} {F : List (Txt × List Nd)} (h : DocI X w xb x F) (hb : ButX X w w') (hx : ¬ X xb) : DocI X w' xb x F :=
  ⟨let ⟨vv, va, vf, h1, h2, h3, h4⟩ := h.blk; ⟨vv, va, vf, (hb.block _ h1.lt hx).trans h1, h2.butX hb fun v x h => OT.butX h hb, h3.butX hb, h4.butX hb fun v x h => ON.butX h hb⟩, h.sv, h.sf, fun b hX => Nat.lt_of_lt_of_le (h.lo b hX) hb.size⟩
theorem blk_apart {w : World} {g g' : Nat} {t t' : TypeId} {cs cs' : Array Value} (h : Blk w g t cs) (h' : Blk w g' t' cs') (ht : t ≠ t') : g ≠ g' := by
  rintro rfl
  unfold Blk at h h'
  rw [h] at h'
  injection h' with h'
  injection h' with _ h5
  exact ht h5
theorem DocI.butS {w w' : World} {xb : Nat} {x : Sto} {F : List (Txt × List Nd)} (h : DocI X w xb x F) {st vb fb : Nat} (hs : StoS w st vb fb) (hb : ButS [st, vb, fb] w w') : DocI X w' xb x F := by
  obtain ⟨vv, va, vf, h1, h2, h3, h4⟩ := h.blk
  refine ⟨⟨vv, va, vf, hb.blk h1 ?_, h2.butS hs hb (by decide) fun v x h => OT.butS h hs hb, h3.butS hs hb, h4.butS hs hb (by decide) fun v x h => ON.butS h hs hb⟩, h.sv, h.sf, fun b hX => Nat.lt_of_lt_of_le (h.lo b hX) hb.size⟩
  obtain ⟨⟨a, A, n, c, d, q1⟩, ⟨e1, k1, q2⟩, ⟨e2, k2, q3⟩⟩ := hs
  intro hm
  simp only [List.mem_cons, List.not_mem_nil, or_false] at hm
  rcases hm with rfl | rfl | rfl
  · exact blk_apart h1 q1 (by decide) rfl
  · unfold Blk at h1; rw [q2] at h1; cases h1
  · unfold Blk at h1; rw [q3] at h1; cases h1
theorem DocI.new {w w' : World} {xb : Nat} {x : Sto} {F : List (Txt × List Nd)} (h : DocI X w xb x F) {Y : Nat → Prop} (hb : Below w.heap.size w w') (hY : ∀ b, Y b → w.heap.size ≤ b ∧ b < w'.heap.size) : DocI Y w' xb x F := by
  obtain ⟨vv, va, vf, h1, h2, h3, h4⟩ := h.blk
  have hY' : ∀ b, Y b → w.heap.size ≤ b := fun b hb => (hY b hb).1
  exact ⟨⟨vv, va, vf, h1.below hb, (h2.new hY' fun v x h => OT.new h hY').below hb fun v x h => OT.below h hb, (h3.new hY').below hb, (h4.new hY' fun v x h => ON.new h hY').below hb fun v x h => ON.below h hb⟩, h.sv, h.sf, fun b hb => (hY b hb).2⟩
theorem DocI.lt {w : World} {xb : Nat} {x : Sto} {F : List (Txt × List Nd)} (h : DocI X w xb x F) : xb < w.heap.size := let ⟨_, _, _, h1, _⟩ := h.blk; h1.lt
/-- The document's store has changed: the other store stands. -/
theorem StI.doc {w w' : World} {st vb fb N : Nat} {x : Sto} {F : List (Txt × List Nd)} (h : StI X w st vb fb N x F) {xb : Nat} {y : Sto} {G : List (Txt × List Nd)} (hd : DocI X w xb y G) (hb : But xb w w') : StI X w' st vb fb N x F := by
  obtain ⟨vv, va, vf, q1, _⟩ := hd.blk
  obtain ⟨va, h1, h2⟩ := h.blk
  exact ⟨⟨va, (hb.block _ h1.lt (blk_apart h1 q1 (by decide))).trans h1, h2.but hb q1 (by decide)⟩, h.vars.keep (hb.block _ h.vars.lt (h.vars.notCells q1)) fun v x h => OT.but h hb q1 (by decide), h.funs.keep (hb.block _ h.funs.lt (h.funs.notCells q1)) fun v x h => ON.but h hb q1 (by decide), h.ne, h.sv, h.sf, fun b hX => Nat.lt_of_lt_of_le (h.lo b hX) hb.size⟩
/-- A field of the document's store has been set. -/
theorem DocI.setArgs {w : World} {xb : Nat} {x : Sto} {F : List (Txt × List Nd)} (h : DocI X w xb x F) {v : Value} {l : List Txt} (hv : OT X w v l) : DocI X (w.setCell ⟨xb, 1, none⟩ v) xb ⟨x.vars, l⟩ F ∧ But xb w (w.setCell ⟨xb, 1, none⟩ v) := by
  have hb := But.set (B := xb) w 1 v
  obtain ⟨vv, va, vf, h1, h2, h3, h4⟩ := h.blk
  exact ⟨⟨⟨vv, v, vf, by simpa using h1.set 1 v, h2.but hb h1 (by decide) fun v x h => OT.but h hb h1 (by decide), hv.but hb h1 (by decide), h4.but hb h1 (by decide) fun v x h => ON.but h hb h1 (by decide)⟩, h.sv, h.sf, fun b hX => Nat.lt_of_lt_of_le (h.lo b hX) hb.size⟩, hb⟩
theorem DocI.setVars {w : World} {xb : Nat} {x : Sto} {F : List (Txt × List Nd)} (h : DocI X w xb x F) {v : Value} {M : List (Txt × List Txt)} (hv : OG X (OT X) 34 w v M) (hM : SortA M) : DocI X (w.setCell ⟨xb, 0, none⟩ v) xb ⟨M, x.args⟩ F ∧ But xb w (w.setCell ⟨xb, 0, none⟩ v) := by
  have hb := But.set (B := xb) w 0 v
  obtain ⟨vv, va, vf, h1, h2, h3, h4⟩ := h.blk
  exact ⟨⟨⟨v, va, vf, by simpa using h1.set 0 v, hv.but hb h1 (by decide) fun v x h => OT.but h hb h1 (by decide), h3.but hb h1 (by decide), h4.but hb h1 (by decide) fun v x h => ON.but h hb h1 (by decide)⟩, hM, h.sf, fun b hX => Nat.lt_of_lt_of_le (h.lo b hX) hb.size⟩, hb⟩
theorem DocI.setFuns {w : World} {xb : Nat} {x : Sto} {F : List (Txt × List Nd)} (h : DocI X w xb x F) {v : Value} {G : List (Txt × List Nd)} (hv : OG X (ON X) 69 w v G) (hG : SortA G) : DocI X (w.setCell ⟨xb, 2, none⟩ v) xb x G ∧ But xb w (w.setCell ⟨xb, 2, none⟩ v) := by
  have hb := But.set (B := xb) w 2 v
  obtain ⟨vv, va, vf, h1, h2, h3, h4⟩ := h.blk
  exact ⟨⟨⟨vv, va, v, by simpa using h1.set 2 v, h2.but hb h1 (by decide) fun v x h => OT.but h hb h1 (by decide), h3.but hb h1 (by decide), hv.but hb h1 (by decide) fun v x h => ON.but h hb h1 (by decide)⟩, h.sv, hG, fun b hX => Nat.lt_of_lt_of_le (h.lo b hX) hb.size⟩, hb⟩
end Go.Proofs.Ytcnkljbckpkgcaa
