/- A store in memory: its block, its two maps, the rows that they hold; what stands while only these change. No condition. -/
import Derived.Test.YtcnkljbckpkgcaaMapR
import Derived.Test.YtcnkljbckpkgcaaStoP
import Derived.Test.YtcnkljbckpkgcaaStrc
import Derived.Test.YtcnkljbckpkgcaaNode
set_option linter.unusedVariables false
set_option linter.unusedSimpArgs false
namespace Go.Proofs.Ytcnkljbckpkgcaa
variable {X : Nat → Prop}
open Go.RowKit Go.Maps

/-- A slice that reads as a list of texts. -/
def TxR (w : World) (v : Value) (L : List Txt) : Prop := ∃ A c, v = .slice A L.length c ∧ RdL w 1 strc A L ∧ (A = none → c = 0) ∧ L.length ≤ c ∧ c ≤ maxLen
def OwnT (w : World) (B : Nat) (v : Value) (L : List Txt) : Prop := ∃ A c, v = .slice A L.length c ∧ w.ownsRow B 9 1 (.slice A L.length c) L.length (L.flatMap strc)
def OwnN (w : World) (B : Nat) (v : Value) (L : List Nd) : Prop := ∃ A c, v = .slice A L.length c ∧ w.ownsRow B 58 5 (.slice A L.length c) L.length (L.flatMap ndc)
theorem OwnT.rd {w : World} {B : Nat} {v : Value} {L : List Txt} (h : OwnT w B v L) : TxR w v L := by
  obtain ⟨A, c, rfl, ho⟩ := h
  obtain ⟨A', c', he, h1, h2, h3, h4⟩ := RdL.of_own strc_len ho rfl
  injection he with he1 _ he3
  subst he1 he3
  exact ⟨A, c, rfl, h3, h4, h1, h2⟩
theorem OwnN.rd {w : World} {B : Nat} {v : Value} {L : List Nd} (h : OwnN w B v L) : SlRd w v L := by
  obtain ⟨A, c, rfl, ho⟩ := h
  exact SlRd.of_own ho rfl
theorem TxR.below {w w' : World} {v : Value} {L : List Txt} (h : TxR w v L) (hb : Below w.heap.size w w') : TxR w' v L :=
  let ⟨A, c, h1, h2, h3⟩ := h
  ⟨A, c, h1, h2.below hb, h3⟩
theorem OwnT.below {w w' : World} {B : Nat} {v : Value} {L : List Txt} (h : OwnT w B v L) (hb : Below w.heap.size w w') : OwnT w' B v L :=
  let ⟨A, c, h1, h2⟩ := h
  ⟨A, c, h1, own_below h2 hb⟩
theorem OwnT.mono {w : World} {B B' : Nat} {v : Value} {L : List Txt} (h : OwnT w B v L) (hb : B' ≤ B) : OwnT w B' v L :=
  let ⟨A, c, h1, h2⟩ := h
  ⟨A, c, h1, own_mono h2 hb⟩
theorem OwnN.below {w w' : World} {B : Nat} {v : Value} {L : List Nd} (h : OwnN w B v L) (hb : Below w.heap.size w w') : OwnN w' B v L :=
  let ⟨A, c, h1, h2⟩ := h
  ⟨A, c, h1, own_below h2 hb⟩
theorem OwnN.mono {w : World} {B B' : Nat} {v : Value} {L : List Nd} (h : OwnN w B v L) (hb : B' ≤ B) : OwnN w B' v L :=
  let ⟨A, c, h1, h2⟩ := h
  ⟨A, c, h1, own_mono h2 hb⟩

/-- All blocks that were there, but these, stand as they stood. -/
structure ButS (S : List Nat) (w w' : World) : Prop where
  os : w'.os = w.os
  tape : w'.tape = w.tape
  output : w'.output = w.output
  size : w.heap.size ≤ w'.heap.size
  block : ∀ k, k < w.heap.size → k ∉ S → w'.heap[k]? = w.heap[k]?
theorem ButS.refl (S : List Nat) (w : World) : ButS S w w := ⟨rfl, rfl, rfl, Nat.le_refl _, fun _ _ _ => rfl⟩
theorem ButS.trans {S : List Nat} {a b c : World} (h : ButS S a b) (k : ButS S b c) : ButS S a c :=
  ⟨k.os.trans h.os, k.tape.trans h.tape, k.output.trans h.output, Nat.le_trans h.size k.size, fun i hi hn => (k.block i (Nat.lt_of_lt_of_le hi h.size) hn).trans (h.block i hi hn)⟩
theorem ButS.of {S : List Nat} {w w' : World} (h : Below w.heap.size w w') : ButS S w w' := ⟨h.os, h.tape, h.output, h.size, fun k hk _ => h.block k hk⟩
theorem ButS.ofBut {S : List Nat} {w w' : World} {g : Nat} (h : But g w w') (hg : g ∈ S) : ButS S w w' := ⟨h.os, h.tape, h.output, h.size, fun k hk hn => h.block k hk fun e => hn (e ▸ hg)⟩
theorem ButS.mono {S T : List Nat} {w w' : World} (h : ButS S w w') (hs : ∀ k ∈ S, k ∈ T) : ButS T w w' := ⟨h.os, h.tape, h.output, h.size, fun k hk hn => h.block k hk fun e => hn (hs k e)⟩
theorem ButS.below {S : List Nat} {n : Nat} {w w' : World} (h : ButS S w w') (hn : ∀ k ∈ S, n ≤ k) (hs : n ≤ w.heap.size) : Below n w w' :=
  ⟨h.os, h.tape, h.output, h.size, fun k hk => h.block k (by omega) fun e => by have := hn k e; omega⟩
theorem ButS.of2 {S : List Nat} {w0 w w' : World} (h : ButS S w0 w) (h2 : Below w0.heap.size w w') : ButS S w0 w' :=
  ⟨h2.os.trans h.os, h2.tape.trans h.tape, h2.output.trans h.output, Nat.le_trans h.size h2.size, fun k hk hn => (h2.block k hk).trans (h.block k hk hn)⟩
theorem ButS.cell {S : List Nat} {w w' : World} {p : Addr} {v : Value} (h : ButS S w w') (hc : w.cell? p = some v) (hp : p.block ∉ S) : w'.cell? p = some v :=
  (World.cell?_of_block (w := w) (h.block p.block (World.block_lt_of_cell? _ _ hc) hp)).trans hc
theorem ButS.blk {S : List Nat} {w w' : World} {g : Nat} {t : TypeId} {cs : Array Value} (h : ButS S w w') (hg : Blk w g t cs) (hn : g ∉ S) : Blk w' g t cs := (h.block g hg.lt hn).trans hg

/-- A store's block and maps. -/
def StoS (w : World) (st vb fb : Nat) : Prop := (∃ a A n c b, Blk w st 51 #[.map a, .slice A n c, .map b]) ∧ (∃ es ck, w.heap[vb]? = some (.map es ck)) ∧ ∃ es ck, w.heap[fb]? = some (.map es ck)
def plainV : Value → Bool
  | .int _ _ => true
  | .string _ => true
  | _ => false
theorem StoS.apart {w : World} {st vb fb b o : Nat} (h : StoS w st vb fb) {v : Value} (hc : w.cell? ⟨b, o, none⟩ = some v) (hv : plainV v = true) : b ∉ [st, vb, fb] := by
  obtain ⟨⟨a, A, n, c, d, h1⟩, ⟨e1, k1, h2⟩, ⟨e2, k2, h3⟩⟩ := h
  intro hm
  simp only [List.mem_cons, List.not_mem_nil, or_false] at hm
  rcases hm with rfl | rfl | rfl
  · rw [h1.cell] at hc
    rcases o with _ | _ | _ | o
    · simp at hc; subst hc; cases hv
    · simp at hc; subst hc; cases hv
    · simp at hc; subst hc; cases hv
    · simp at hc
  · simp only [World.cell?, h2] at hc; cases hc
  · simp only [World.cell?, h3] at hc; cases hc
theorem RdL.butS {α : Type} {enc : α → List Value} {sz : Nat} {w w' : World} {A : Option Addr} {l : List α} (h : RdL w sz enc A l) {S : List Nat} (hb : ButS S w w') (hn : ∀ b o, A = some ⟨b, o, none⟩ → 0 < l.length → b ∉ S) : RdL w' sz enc A l := by
  intro k hk
  obtain ⟨b, o, rfl, hlt, hcell⟩ := h k hk
  have hne := hn b o rfl (by omega)
  exact ⟨b, o, rfl, Nat.lt_of_lt_of_le hlt hb.size, fun j u hu => hb.cell (hcell j u hu) hne⟩
theorem TxR.apart {w : World} {A : Option Addr} {L : List Txt} (h : RdL w 1 strc A L) {st vb fb : Nat} (hs : StoS w st vb fb) : ∀ b o, A = some ⟨b, o, none⟩ → 0 < L.length → b ∉ [st, vb, fb] := by
  rintro b o rfl hl
  exact hs.apart ((h.at_ hl).2 0 _ rfl) rfl
theorem TxR.butS {w w' : World} {v : Value} {L : List Txt} (h : TxR w v L) {st vb fb : Nat} (hs : StoS w st vb fb) (hb : ButS [st, vb, fb] w w') : TxR w' v L :=
  let ⟨A, c, h1, h2, h3⟩ := h
  ⟨A, c, h1, h2.butS hb (TxR.apart h2 hs), h3⟩
theorem SlRd.butS {w w' : World} {v : Value} {L : List Nd} (h : SlRd w v L) {st vb fb : Nat} (hs : StoS w st vb fb) (hb : ButS [st, vb, fb] w w') : SlRd w' v L := by
  obtain ⟨A, c, h1, h2, h3⟩ := h
  refine ⟨A, c, h1, h2.butS hb ?_, h3⟩
  rintro b o rfl hl
  exact hs.apart ((h2.at_ hl).2 0 _ rfl) rfl
theorem own_butS {w w' : World} {B : Nat} {e : TypeId} {sz n : Nat} {v : Value} {xs : List Value} (h : w.ownsRow B e sz v n xs) {st vb fb : Nat} (hs : StoS w st vb fb) (hb : ButS [st, vb, fb] w w') (he : e ≠ 51) : w'.ownsRow B e sz v n xs := by
  refine ⟨h.1, ?_⟩
  obtain ⟨⟨a, A, m, c, d, h1⟩, ⟨e1, k1, h2⟩, ⟨e2, k2, h3⟩⟩ := hs
  rcases h.2 with hn' | ⟨g, cap, cur, rfl, hb', hg, rest⟩
  · exact .inl hn'
  · refine .inr ⟨g, cap, cur, rfl, hb', (hb.block g (Array.getElem?_eq_some_iff.1 hg).1 ?_).trans hg, rest⟩
    intro hm
    simp only [List.mem_cons, List.not_mem_nil, or_false] at hm
    rcases hm with rfl | rfl | rfl
    · unfold Blk at h1
      rw [hg] at h1
      injection h1 with h1
      injection h1 with _ h5
      exact he h5
    · rw [hg] at h2; cases h2
    · rw [hg] at h3; cases h3
theorem OwnT.butS {w w' : World} {B : Nat} {v : Value} {L : List Txt} (h : OwnT w B v L) {st vb fb : Nat} (hs : StoS w st vb fb) (hb : ButS [st, vb, fb] w w') : OwnT w' B v L :=
  let ⟨A, c, h1, h2⟩ := h
  ⟨A, c, h1, own_butS h2 hs hb (by decide)⟩
theorem OwnN.butS {w w' : World} {B : Nat} {v : Value} {L : List Nd} (h : OwnN w B v L) {st vb fb : Nat} (hs : StoS w st vb fb) (hb : ButS [st, vb, fb] w w') : OwnN w' B v L :=
  let ⟨A, c, h1, h2⟩ := h
  ⟨A, c, h1, own_butS h2 hs hb (by decide)⟩

/-- The value's row lies in none of the blocks X. -/
def Apt (X : Nat → Prop) (v : Value) : Prop := ∀ b o s n c, v = .slice (some ⟨b, o, s⟩) n c → ¬ X b
/-- A row of texts, of nodes, that the code has laid itself, in none of the blocks X. -/
def OT (X : Nat → Prop) (w : World) (v : Value) (L : List Txt) : Prop := OwnT w 0 v L ∧ Apt X v
def ON (X : Nat → Prop) (w : World) (v : Value) (L : List Nd) : Prop := OwnN w 0 v L ∧ Apt X v
theorem own_apt {w : World} {B n : Nat} {e : TypeId} {sz : Nat} {v : Value} {xs : List Value} (h : w.ownsRow B e sz v n xs) : ∀ b o s n c, v = .slice (some ⟨b, o, s⟩) n c → B ≤ b ∧ b < w.heap.size := by
  rintro b o s n c rfl
  rcases h.2 with ⟨h', _⟩ | ⟨g, cap, cur, h', hb, hg, _⟩
  · simp at h'
  · simp only [Value.slice.injEq, Option.some.injEq, Addr.mk.injEq] at h'
    obtain ⟨⟨rfl, _⟩, _⟩ := h'
    exact ⟨hb, (Array.getElem?_eq_some_iff.1 hg).1⟩
theorem OwnT.ot {w : World} {B : Nat} {v : Value} {L : List Txt} (h : OwnT w B v L) (hX : ∀ b, X b → b < B) : OT X w v L :=
  ⟨h.mono (Nat.zero_le B), fun b o s n c e hb => by
    obtain ⟨A, c', rfl, ho⟩ := h
    exact absurd (hX b hb) (Nat.not_lt.2 (own_apt ho b o s n c e).1)⟩
theorem OwnN.on {w : World} {B : Nat} {v : Value} {L : List Nd} (h : OwnN w B v L) (hX : ∀ b, X b → b < B) : ON X w v L :=
  ⟨h.mono (Nat.zero_le B), fun b o s n c e hb => by
    obtain ⟨A, c', rfl, ho⟩ := h
    exact absurd (hX b hb) (Nat.not_lt.2 (own_apt ho b o s n c e).1)⟩
theorem OT.rd {w : World} {v : Value} {L : List Txt} (h : OT X w v L) : TxR w v L := OwnT.rd h.1
theorem ON.rd {w : World} {v : Value} {L : List Nd} (h : ON X w v L) : SlRd w v L := OwnN.rd h.1
theorem OT.below {w w' : World} {v : Value} {L : List Txt} (h : OT X w v L) (hb : Below w.heap.size w w') : OT X w' v L := ⟨OwnT.below h.1 hb, h.2⟩
theorem ON.below {w w' : World} {v : Value} {L : List Nd} (h : ON X w v L) (hb : Below w.heap.size w w') : ON X w' v L := ⟨OwnN.below h.1 hb, h.2⟩
theorem OT.butS {w w' : World} {v : Value} {L : List Txt} (h : OT X w v L) {st vb fb : Nat} (hs : StoS w st vb fb) (hb : ButS [st, vb, fb] w w') : OT X w' v L := ⟨OwnT.butS h.1 hs hb, h.2⟩
theorem ON.butS {w w' : World} {v : Value} {L : List Nd} (h : ON X w v L) {st vb fb : Nat} (hs : StoS w st vb fb) (hb : ButS [st, vb, fb] w w') : ON X w' v L := ⟨OwnN.butS h.1 hs hb, h.2⟩
theorem OT.others {w w' : World} {v : Value} {L : List Txt} (h : OT X w v L) {ts : List TypeId} (ho : Others ts w w') (ht : 9 ∉ ts) : OT X w' v L :=
  let ⟨⟨A, c, h1, h2⟩, h3⟩ := h
  ⟨⟨A, c, h1, own_others h2 ho ht⟩, h3⟩
theorem ON.others {w w' : World} {v : Value} {L : List Nd} (h : ON X w v L) {ts : List TypeId} (ho : Others ts w w') (ht : 58 ∉ ts) : ON X w' v L :=
  let ⟨⟨A, c, h1, h2⟩, h3⟩ := h
  ⟨⟨A, c, h1, own_others h2 ho ht⟩, h3⟩
theorem OT.nil (w : World) : OT X w (.slice none 0 0) [] := ⟨⟨none, 0, rfl, World.ownsRow_nil _ _ _ _⟩, fun b o s n c e => by cases e⟩
theorem OT.form {w : World} {v : Value} {L : List Txt} (h : OT X w v L) : ∃ A c, v = .slice A L.length c := let ⟨⟨A, c, h1, _⟩, _⟩ := h; ⟨A, c, h1⟩
/-- Other blocks than these stand. -/
structure ButX (Y : Nat → Prop) (w w' : World) : Prop where
  os : w'.os = w.os
  tape : w'.tape = w.tape
  output : w'.output = w.output
  size : w.heap.size ≤ w'.heap.size
  block : ∀ k, k < w.heap.size → ¬ Y k → w'.heap[k]? = w.heap[k]?
theorem ButX.refl (Y : Nat → Prop) (w : World) : ButX Y w w := ⟨rfl, rfl, rfl, Nat.le_refl _, fun _ _ _ => rfl⟩
theorem ButX.trans {Y : Nat → Prop} {a b c : World} (h : ButX Y a b) (k : ButX Y b c) : ButX Y a c :=
  ⟨k.os.trans h.os, k.tape.trans h.tape, k.output.trans h.output, Nat.le_trans h.size k.size, fun i hi hn => (k.block i (Nat.lt_of_lt_of_le hi h.size) hn).trans (h.block i hi hn)⟩
theorem ButX.of {Y : Nat → Prop} {w w' : World} (h : Below w.heap.size w w') : ButX Y w w' := ⟨h.os, h.tape, h.output, h.size, fun k hk _ => h.block k hk⟩
theorem ButX.ofBut {Y : Nat → Prop} {w w' : World} {g : Nat} (h : But g w w') (hg : Y g) : ButX Y w w' := ⟨h.os, h.tape, h.output, h.size, fun k hk hn => h.block k hk fun e => hn (e ▸ hg)⟩
theorem ButX.ofS {Y : Nat → Prop} {S : List Nat} {w w' : World} (h : ButS S w w') (hS : ∀ k ∈ S, Y k) : ButX Y w w' := ⟨h.os, h.tape, h.output, h.size, fun k hk hn => h.block k hk fun e => hn (hS k e)⟩
theorem ButX.mono {Y Z : Nat → Prop} {w w' : World} (h : ButX Y w w') (hS : ∀ k, Y k → Z k) : ButX Z w w' := ⟨h.os, h.tape, h.output, h.size, fun k hk hn => h.block k hk fun e => hn (hS k e)⟩
theorem ButX.below {Y : Nat → Prop} {n : Nat} {w w' : World} (h : ButX Y w w') (hn : ∀ k, Y k → n ≤ k) (hs : n ≤ w.heap.size) : Below n w w' :=
  ⟨h.os, h.tape, h.output, h.size, fun k hk => h.block k (by omega) fun e => by have := hn k e; omega⟩
theorem own_butX {w w' : World} {B : Nat} {e : TypeId} {sz n : Nat} {v : Value} {xs : List Value} (h : w.ownsRow B e sz v n xs) {Y : Nat → Prop} (hb : ButX Y w w') (ha : ∀ b, Y b → ∀ o s n c, v ≠ .slice (some ⟨b, o, s⟩) n c) : w'.ownsRow B e sz v n xs := by
  refine ⟨h.1, ?_⟩
  rcases h.2 with hn' | ⟨g, cap, cur, rfl, hb', hg, rest⟩
  · exact .inl hn'
  · exact .inr ⟨g, cap, cur, rfl, hb', (hb.block g (Array.getElem?_eq_some_iff.1 hg).1 fun hy => ha g hy _ _ _ _ rfl).trans hg, rest⟩
theorem OT.butX {w w' : World} {v : Value} {L : List Txt} (h : OT X w v L) (hb : ButX X w w') : OT X w' v L :=
  let ⟨⟨A, c, h1, h2⟩, h3⟩ := h
  ⟨⟨A, c, h1, own_butX h2 hb fun b hy o s n c' e => h3 b o s n c' (h1.trans e) hy⟩, h3⟩
theorem ON.butX {w w' : World} {v : Value} {L : List Nd} (h : ON X w v L) (hb : ButX X w w') : ON X w' v L :=
  let ⟨⟨A, c, h1, h2⟩, h3⟩ := h
  ⟨⟨A, c, h1, own_butX h2 hb fun b hy o s n c' e => h3 b o s n c' (h1.trans e) hy⟩, h3⟩
/-- Blocks laid since may be left out instead. -/
theorem OT.new {w : World} {v : Value} {L : List Txt} (h : OT X w v L) {Y : Nat → Prop} (hY : ∀ b, Y b → w.heap.size ≤ b) : OT Y w v L :=
  ⟨h.1, fun b o s n c e hb => by
    obtain ⟨A, c', rfl, ho⟩ := h.1
    exact absurd (own_apt ho b o s n c e).2 (Nat.not_lt.2 (hY b hb))⟩
theorem ON.new {w : World} {v : Value} {L : List Nd} (h : ON X w v L) {Y : Nat → Prop} (hY : ∀ b, Y b → w.heap.size ≤ b) : ON Y w v L :=
  ⟨h.1, fun b o s n c e hb => by
    obtain ⟨A, c', rfl, ho⟩ := h.1
    exact absurd (own_apt ho b o s n c e).2 (Nat.not_lt.2 (hY b hb))⟩

/-- The store in memory is x, its functions F; each map has N entries at most. -/
structure StI (X : Nat → Prop) (w : World) (st vb fb N : Nat) (x : Sto) (F : List (Txt × List Nd)) : Prop where
  blk : ∃ va, Blk w st 51 #[.map (some vb), va, .map (some fb)] ∧ OT X w va x.args
  vars : MapR (OT X) w vb N (lookA x.vars)
  funs : MapR (ON X) w fb N (lookA F)
  ne : vb ≠ fb
  sv : SortA x.vars
  sf : SortA F
  lo : ∀ b, X b → b < w.heap.size
theorem MapR.isMap {α : Type} {R : World → Value → α → Prop} {w : World} {b N : Nat} {B : List UInt8 → Option α} (h : MapR R w b N B) : ∃ es ck, w.heap[b]? = some (.map es ck) := by
  obtain ⟨F, ⟨D, ⟨es, clock, h1, _⟩, _⟩, _⟩ := h
  exact ⟨es, clock, h1⟩
theorem StI.s {w : World} {st vb fb N : Nat} {x : Sto} {F : List (Txt × List Nd)} (h : StI X w st vb fb N x F) : StoS w st vb fb := by
  obtain ⟨va, h1, ⟨A, c, rfl, _⟩, _⟩ := h.blk
  exact ⟨⟨_, _, _, _, _, h1⟩, h.vars.isMap, h.funs.isMap⟩
theorem StI.below {w w' : World} {st vb fb N : Nat} {x : Sto} {F : List (Txt × List Nd)} (h : StI X w st vb fb N x F) (hb : Below w.heap.size w w') : StI X w' st vb fb N x F :=
  ⟨let ⟨va, h1, h2⟩ := h.blk; ⟨va, h1.below hb, h2.below hb⟩, h.vars.below hb fun v x hx => OT.below hx hb, h.funs.below hb fun v x hx => ON.below hx hb, h.ne, h.sv, h.sf, fun q hX => Nat.lt_of_lt_of_le (h.lo q hX) hb.size⟩
theorem StI.mono {w : World} {st vb fb N M : Nat} {x : Sto} {F : List (Txt × List Nd)} (h : StI X w st vb fb N x F) (hm : N ≤ M) : StI X w st vb fb M x F :=
  ⟨h.blk, h.vars.mono hm, h.funs.mono hm, h.ne, h.sv, h.sf, h.lo⟩
theorem StI.stv {w : World} {st vb fb N : Nat} {x : Sto} {F : List (Txt × List Nd)} (h : StI X w st vb fb N x F) : vb ≠ st ∧ fb ≠ st :=
  let ⟨va, h1, _⟩ := h.blk
  ⟨h.vars.notCells h1, h.funs.notCells h1⟩
/-- Only the arguments' cell has been set. -/
theorem StI.setArgs {w : World} {st vb fb N : Nat} {x : Sto} {F : List (Txt × List Nd)} (h : StI X w st vb fb N x F) {v : Value} {l : List Txt} (hv : OT X w v l) : StI X (w.setCell ⟨st, 1, none⟩ v) st vb fb N ⟨x.vars, l⟩ F ∧ ButS [st, vb, fb] w (w.setCell ⟨st, 1, none⟩ v) := by
  have hb0 := But.set (B := st) w 1 v
  have hb : ButS [st, vb, fb] w (w.setCell ⟨st, 1, none⟩ v) := ButS.ofBut hb0 (by simp)
  obtain ⟨n1, n2⟩ := h.stv
  refine ⟨⟨?_, h.vars.keep (hb0.block _ h.vars.lt n1) fun u y hy => OT.butS hy h.s hb, h.funs.keep (hb0.block _ h.funs.lt n2) fun u y hy => ON.butS hy h.s hb, h.ne, h.sv, h.sf, fun q hX => Nat.lt_of_lt_of_le (h.lo q hX) hb.size⟩, hb⟩
  obtain ⟨va, h1, _⟩ := h.blk
  exact ⟨v, by simpa using h1.set 1 v, hv.butS h.s hb⟩
/-- A variable has been put. -/
theorem StI.put {w : World} {st vb fb N : Nat} {x : Sto} {F : List (Txt × List Nd)} (h : StI X w st vb fb N x F) {t e : TypeId} (ht : Try.prog.underlying t = some (.map 9 e)) (hN : N < maxLen) {n : Txt} (hn : n.length ≤ maxLen) {v : Value} {l : List Txt} (hv : OT X w v l) :
    ∃ w', (Instr.mapUpdate t (.map (some vb)) (.string ⟨n.toArray⟩) v).run Try.prog w = .ok () w' ∧ StI X w' st vb fb (N + 1) ⟨putA n l x.vars, x.args⟩ F ∧ ButS [st, vb, fb] w w' := by
  obtain ⟨w', hr, hm, hb0⟩ := h.vars.put ht hN hn hv fun w' v y hb hy => OT.butS hy h.s (ButS.ofBut hb (by simp))
  have hb : ButS [st, vb, fb] w w' := ButS.ofBut hb0 (by simp)
  obtain ⟨n1, n2⟩ := h.stv
  refine ⟨w', hr, ⟨?_, hm.congr fun s => (look_put n l s x.vars).symm, (h.funs.keep (hb0.block _ h.funs.lt (fun e => h.ne e.symm)) fun u y hy => ON.butS hy h.s hb).mono (Nat.le_succ N), h.ne, sort_put h.sv, h.sf, fun q hX => Nat.lt_of_lt_of_le (h.lo q hX) hb.size⟩, hb⟩
  obtain ⟨va, h1, h2⟩ := h.blk
  exact ⟨va, hb0.blk h1 (fun e => n1 e.symm), h2.butS h.s hb⟩
theorem StI.drop {w : World} {st vb fb N : Nat} {x : Sto} {F : List (Txt × List Nd)} (h : StI X w st vb fb N x F) {t e : TypeId} (ht : Try.prog.underlying t = some (.map 9 e)) {n : Txt} (hn : n.length ≤ maxLen) (ty : TypeId) :
    ∃ w', (Builtin.delete_ #[t, 9] ty #[.map (some vb), .string ⟨n.toArray⟩]).run Try.prog w = .ok (.tuple #[]) w' ∧ StI X w' st vb fb N ⟨delA n x.vars, x.args⟩ F ∧ ButS [st, vb, fb] w w' := by
  obtain ⟨w', hr, hm, hb0⟩ := h.vars.drop ht hn ty fun w' v y hb hy => OT.butS hy h.s (ButS.ofBut hb (by simp))
  have hb : ButS [st, vb, fb] w w' := ButS.ofBut hb0 (by simp)
  obtain ⟨n1, n2⟩ := h.stv
  refine ⟨w', hr, ⟨?_, hm.congr fun s => (look_del n s x.vars).symm, h.funs.keep (hb0.block _ h.funs.lt (fun e => h.ne e.symm)) fun u y hy => ON.butS hy h.s hb, h.ne, sort_del h.sv, h.sf, fun q hX => Nat.lt_of_lt_of_le (h.lo q hX) hb.size⟩, hb⟩
  obtain ⟨va, h1, h2⟩ := h.blk
  exact ⟨va, hb0.blk h1 (fun e => n1 e.symm), h2.butS h.s hb⟩
/-- A function has been put. -/
theorem StI.putF {w : World} {st vb fb N : Nat} {x : Sto} {F : List (Txt × List Nd)} (h : StI X w st vb fb N x F) {t e : TypeId} (ht : Try.prog.underlying t = some (.map 9 e)) (hN : N < maxLen) {n : Txt} (hn : n.length ≤ maxLen) {v : Value} {l : List Nd} (hv : ON X w v l) :
    ∃ w', (Instr.mapUpdate t (.map (some fb)) (.string ⟨n.toArray⟩) v).run Try.prog w = .ok () w' ∧ StI X w' st vb fb (N + 1) x (putA n l F) ∧ ButS [st, vb, fb] w w' := by
  obtain ⟨w', hr, hm, hb0⟩ := h.funs.put ht hN hn hv fun w' v y hb hy => ON.butS hy h.s (ButS.ofBut hb (by simp))
  have hb : ButS [st, vb, fb] w w' := ButS.ofBut hb0 (by simp)
  obtain ⟨n1, n2⟩ := h.stv
  refine ⟨w', hr, ⟨?_, (h.vars.keep (hb0.block _ h.vars.lt h.ne) fun u y hy => OT.butS hy h.s hb).mono (Nat.le_succ N), hm.congr fun s => (look_put n l s F).symm, h.ne, h.sv, sort_put h.sf, fun q hX => Nat.lt_of_lt_of_le (h.lo q hX) hb.size⟩, hb⟩
  obtain ⟨va, h1, h2⟩ := h.blk
  exact ⟨va, hb0.blk h1 (fun e => n2 e.symm), h2.butS h.s hb⟩
/-- Rows of other types, and not the maps, have changed. -/
theorem StI.others {w w' : World} {st vb fb N : Nat} {x : Sto} {F : List (Txt × List Nd)} (h : StI X w st vb fb N x F) {ts : List TypeId} (ho : Others ts w w') (h1 : 9 ∉ ts) (h2 : 58 ∉ ts) (h3 : 51 ∉ ts) {b : Nat} (hb : Below b w w') (hvb : vb < b) (hfb : fb < b) : StI X w' st vb fb N x F :=
  ⟨let ⟨va, q1, q2⟩ := h.blk; ⟨va, q1.others ho h3, q2.others ho h1⟩, h.vars.keep (hb.block _ hvb) fun v x hx => OT.others hx ho h1, h.funs.keep (hb.block _ hfb) fun v x hx => ON.others hx ho h2, h.ne, h.sv, h.sf, fun q hX => Nat.lt_of_lt_of_le (h.lo q hX) hb.size⟩
/-- Blocks laid since may be left out instead. -/
theorem StI.new {w w' : World} {st vb fb N : Nat} {x : Sto} {F : List (Txt × List Nd)} (h : StI X w st vb fb N x F) {Y : Nat → Prop} (hb : Below w.heap.size w w') (hY : ∀ b, Y b → w.heap.size ≤ b ∧ b < w'.heap.size) : StI Y w' st vb fb N x F :=
  ⟨let ⟨va, h1, h2⟩ := h.blk; ⟨va, h1.below hb, (h2.new fun b hb => (hY b hb).1).below hb⟩, h.vars.keep2 (hb.block _ h.vars.lt) fun v x hx => OT.below (hx.new fun b hb => (hY b hb).1) hb, h.funs.keep2 (hb.block _ h.funs.lt) fun v x hx => ON.below (hx.new fun b hb => (hY b hb).1) hb, h.ne, h.sv, h.sf, fun b hb => (hY b hb).2⟩
/-- Only blocks that the store does not hold have changed. -/
theorem StI.butX {w w' : World} {st vb fb N : Nat} {x : Sto} {F : List (Txt × List Nd)} (h : StI X w st vb fb N x F) (hb : ButX X w w') (h1 : ¬ X st) (h2 : ¬ X vb) (h3 : ¬ X fb) : StI X w' st vb fb N x F :=
  ⟨let ⟨va, q1, q2⟩ := h.blk; ⟨va, (hb.block _ q1.lt h1).trans q1, q2.butX hb⟩, h.vars.keep (hb.block _ h.vars.lt h2) fun v x hx => OT.butX hx hb, h.funs.keep (hb.block _ h.funs.lt h3) fun v x hx => ON.butX hx hb, h.ne, h.sv, h.sf, fun q hX => Nat.lt_of_lt_of_le (h.lo q hX) hb.size⟩
end Go.Proofs.Ytcnkljbckpkgcaa
