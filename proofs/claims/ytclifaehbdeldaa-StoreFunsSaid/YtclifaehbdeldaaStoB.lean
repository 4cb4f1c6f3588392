/- A store in memory: its block, its two maps, the rows that they hold; what stands while only these change. No condition. -/
import Derived.Test.YtclifaehbdeldaaMapR
import Derived.Test.YtclifaehbdeldaaStoP
import Derived.Test.YtclifaehbdeldaaStrc
import Derived.Test.YtclifaehbdeldaaNode
set_option linter.unusedVariables false
set_option linter.unusedSimpArgs false
namespace Go.Proofs.Ytclifaehbdeldaa
open Go.RowKit Go.Maps

/-- A slice that reads as a list of texts. -/
def TxR (w : World) (v : Value) (L : List Txt) : Prop := ∃ A c, v = .slice A L.length c ∧ RdL w 1 strc A L ∧ (A = none → c = 0) ∧ L.length ≤ c ∧ c ≤ maxLen
def OwnT (w : World) (B : Nat) (v : Value) (L : List Txt) : Prop := ∃ A c, v = .slice A L.length c ∧ w.ownsRow B 9 1 (.slice A L.length c) L.length (L.flatMap strc)
def OwnN (w : World) (B : Nat) (v : Value) (L : List Nd) : Prop := ∃ A c, v = .slice A L.length c ∧ w.ownsRow B 62 5 (.slice A L.length c) L.length (L.flatMap ndc)
theorem OwnT.rd {w : World} {B : Nat} {v : Value} {L : List Txt} (h : OwnT w B v L) : TxR w v L := by
  obtain ⟨A, c, rfl, ho⟩ := h
  obtain ⟨A', c', he, h1, h2, h3, h4⟩ := RdL.of_own strc_len ho rfl
  injection he with he1 _ he3
  subst he1 he3
  exact ⟨A, c, rfl, h3, h4, h1, h2⟩
theorem OwnN.rd {w : World} {B : Nat} {v : Value} {L : List Nd} (h : OwnN w B v L) : SlRd w v L := by
  obtain ⟨A, c, rfl, ho⟩ := h
  exact SlRd.of_own ho rfl
theorem TxR.below {w w' : World} {v : Value} {L : List Txt} (h : TxR w v L) (hb : Below w.heap.size w w') : TxR w' v L :=
  let ⟨A, c, h1, h2, h3⟩ := h
  ⟨A, c, h1, h2.below hb, h3⟩
theorem OwnT.below {w w' : World} {B : Nat} {v : Value} {L : List Txt} (h : OwnT w B v L) (hb : Below w.heap.size w w') : OwnT w' B v L :=
  let ⟨A, c, h1, h2⟩ := h
  ⟨A, c, h1, own_below h2 hb⟩
theorem OwnT.mono {w : World} {B B' : Nat} {v : Value} {L : List Txt} (h : OwnT w B v L) (hb : B' ≤ B) : OwnT w B' v L :=
  let ⟨A, c, h1, h2⟩ := h
  ⟨A, c, h1, own_mono h2 hb⟩
theorem OwnN.below {w w' : World} {B : Nat} {v : Value} {L : List Nd} (h : OwnN w B v L) (hb : Below w.heap.size w w') : OwnN w' B v L :=
  let ⟨A, c, h1, h2⟩ := h
  ⟨A, c, h1, own_below h2 hb⟩
theorem OwnN.mono {w : World} {B B' : Nat} {v : Value} {L : List Nd} (h : OwnN w B v L) (hb : B' ≤ B) : OwnN w B' v L :=
  let ⟨A, c, h1, h2⟩ := h
  ⟨A, c, h1, own_mono h2 hb⟩

/-- All blocks that were there, but these, stand as they stood. -/
structure ButS (S : List Nat) (w w' : World) : Prop where
  os : w'.os = w.os
  tape : w'.tape = w.tape
  output : w'.output = w.output
  size : w.heap.size ≤ w'.heap.size
  block : ∀ k, k < w.heap.size → k ∉ S → w'.heap[k]? = w.heap[k]?
theorem ButS.refl (S : List Nat) (w : World) : ButS S w w := ⟨rfl, rfl, rfl, Nat.le_refl _, fun _ _ _ => rfl⟩
theorem ButS.trans {S : List Nat} {a b c : World} (h : ButS S a b) (k : ButS S b c) : ButS S a c :=
  ⟨k.os.trans h.os, k.tape.trans h.tape, k.output.trans h.output, Nat.le_trans h.size k.size, fun i hi hn => (k.block i (Nat.lt_of_lt_of_le hi h.size) hn).trans (h.block i hi hn)⟩
theorem ButS.of {S : List Nat} {w w' : World} (h : Below w.heap.size w w') : ButS S w w' := ⟨h.os, h.tape, h.output, h.size, fun k hk _ => h.block k hk⟩
theorem ButS.ofBut {S : List Nat} {w w' : World} {g : Nat} (h : But g w w') (hg : g ∈ S) : ButS S w w' := ⟨h.os, h.tape, h.output, h.size, fun k hk hn => h.block k hk fun e => hn (e ▸ hg)⟩
theorem ButS.mono {S T : List Nat} {w w' : World} (h : ButS S w w') (hs : ∀ k ∈ S, k ∈ T) : ButS T w w' := ⟨h.os, h.tape, h.output, h.size, fun k hk hn => h.block k hk fun e => hn (hs k e)⟩
theorem ButS.below {S : List Nat} {n : Nat} {w w' : World} (h : ButS S w w') (hn : ∀ k ∈ S, n ≤ k) (hs : n ≤ w.heap.size) : Below n w w' :=
  ⟨h.os, h.tape, h.output, h.size, fun k hk => h.block k (by omega) fun e => by have := hn k e; omega⟩
theorem ButS.of2 {S : List Nat} {w0 w w' : World} (h : ButS S w0 w) (h2 : Below w0.heap.size w w') : ButS S w0 w' :=
  ⟨h2.os.trans h.os, h2.tape.trans h.tape, h2.output.trans h.output, Nat.le_trans h.size h2.size, fun k hk hn => (h2.block k hk).trans (h.block k hk hn)⟩
theorem ButS.cell {S : List Nat} {w w' : World} {p : Addr} {v : Value} (h : ButS S w w') (hc : w.cell? p = some v) (hp : p.block ∉ S) : w'.cell? p = some v :=
  (World.cell?_of_block (w := w) (h.block p.block (World.block_lt_of_cell? _ _ hc) hp)).trans hc
theorem ButS.blk {S : List Nat} {w w' : World} {g : Nat} {t : TypeId} {cs : Array Value} (h : ButS S w w') (hg : Blk w g t cs) (hn : g ∉ S) : Blk w' g t cs := (h.block g hg.lt hn).trans hg

/-- A store's block and maps. -/
def StoS (w : World) (st vb fb : Nat) : Prop := (∃ a A n c b, Blk w st 37 #[.map a, .slice A n c, .map b]) ∧ (∃ es ck, w.heap[vb]? = some (.map es ck)) ∧ ∃ es ck, w.heap[fb]? = some (.map es ck)
def plainV : Value → Bool
  | .int _ _ => true
  | .string _ => true
  | _ => false
theorem StoS.apart {w : World} {st vb fb b o : Nat} (h : StoS w st vb fb) {v : Value} (hc : w.cell? ⟨b, o, none⟩ = some v) (hv : plainV v = true) : b ∉ [st, vb, fb] := by
  obtain ⟨⟨a, A, n, c, d, h1⟩, ⟨e1, k1, h2⟩, ⟨e2, k2, h3⟩⟩ := h
  intro hm
  simp only [List.mem_cons, List.not_mem_nil, or_false] at hm
  rcases hm with rfl | rfl | rfl
  · rw [h1.cell] at hc
    rcases o with _ | _ | _ | o
    · simp at hc; subst hc; cases hv
    · simp at hc; subst hc; cases hv
    · simp at hc; subst hc; cases hv
    · simp at hc
  · simp only [World.cell?, h2] at hc; cases hc
  · simp only [World.cell?, h3] at hc; cases hc
theorem RdL.butS {α : Type} {enc : α → List Value} {sz : Nat} {w w' : World} {A : Option Addr} {l : List α} (h : RdL w sz enc A l) {S : List Nat} (hb : ButS S w w') (hn : ∀ b o, A = some ⟨b, o, none⟩ → 0 < l.length → b ∉ S) : RdL w' sz enc A l := by
  intro k hk
  obtain ⟨b, o, rfl, hlt, hcell⟩ := h k hk
  have hne := hn b o rfl (by omega)
  exact ⟨b, o, rfl, Nat.lt_of_lt_of_le hlt hb.size, fun j u hu => hb.cell (hcell j u hu) hne⟩
theorem TxR.apart {w : World} {A : Option Addr} {L : List Txt} (h : RdL w 1 strc A L) {st vb fb : Nat} (hs : StoS w st vb fb) : ∀ b o, A = some ⟨b, o, none⟩ → 0 < L.length → b ∉ [st, vb, fb] := by
  rintro b o rfl hl
  exact hs.apart ((h.at_ hl).2 0 _ rfl) rfl
theorem TxR.butS {w w' : World} {v : Value} {L : List Txt} (h : TxR w v L) {st vb fb : Nat} (hs : StoS w st vb fb) (hb : ButS [st, vb, fb] w w') : TxR w' v L :=
  let ⟨A, c, h1, h2, h3⟩ := h
  ⟨A, c, h1, h2.butS hb (TxR.apart h2 hs), h3⟩
theorem SlRd.butS {w w' : World} {v : Value} {L : List Nd} (h : SlRd w v L) {st vb fb : Nat} (hs : StoS w st vb fb) (hb : ButS [st, vb, fb] w w') : SlRd w' v L := by
  obtain ⟨A, c, h1, h2, h3⟩ := h
  refine ⟨A, c, h1, h2.butS hb ?_, h3⟩
  rintro b o rfl hl
  exact hs.apart ((h2.at_ hl).2 0 _ rfl) rfl
theorem own_butS {w w' : World} {B : Nat} {e : TypeId} {sz n : Nat} {v : Value} {xs : List Value} (h : w.ownsRow B e sz v n xs) {st vb fb : Nat} (hs : StoS w st vb fb) (hb : ButS [st, vb, fb] w w') (he : e ≠ 37) : w'.ownsRow B e sz v n xs := by
  refine ⟨h.1, ?_⟩
  obtain ⟨⟨a, A, m, c, d, h1⟩, ⟨e1, k1, h2⟩, ⟨e2, k2, h3⟩⟩ := hs
  rcases h.2 with hn' | ⟨g, cap, cur, rfl, hb', hg, rest⟩
  · exact .inl hn'
  · refine .inr ⟨g, cap, cur, rfl, hb', (hb.block g (Array.getElem?_eq_some_iff.1 hg).1 ?_).trans hg, rest⟩
    intro hm
    simp only [List.mem_cons, List.not_mem_nil, or_false] at hm
    rcases hm with rfl | rfl | rfl
    · unfold Blk at h1
      rw [hg] at h1
      injection h1 with h1
      injection h1 with _ h5
      exact he h5
    · rw [hg] at h2; cases h2
    · rw [hg] at h3; cases h3
theorem OwnT.butS {w w' : World} {B : Nat} {v : Value} {L : List Txt} (h : OwnT w B v L) {st vb fb : Nat} (hs : StoS w st vb fb) (hb : ButS [st, vb, fb] w w') : OwnT w' B v L :=
  let ⟨A, c, h1, h2⟩ := h
  ⟨A, c, h1, own_butS h2 hs hb (by decide)⟩
theorem OwnN.butS {w w' : World} {B : Nat} {v : Value} {L : List Nd} (h : OwnN w B v L) {st vb fb : Nat} (hs : StoS w st vb fb) (hb : ButS [st, vb, fb] w w') : OwnN w' B v L :=
  let ⟨A, c, h1, h2⟩ := h
  ⟨A, c, h1, own_butS h2 hs hb (by decide)⟩

/-- A row of texts, of nodes, that the code has laid itself. -/
def OT (w : World) (v : Value) (L : List Txt) : Prop := OwnT w 0 v L
def ON (w : World) (v : Value) (L : List Nd) : Prop := OwnN w 0 v L
theorem OwnT.ot {w : World} {B : Nat} {v : Value} {L : List Txt} (h : OwnT w B v L) : OT w v L := h.mono (Nat.zero_le B)
theorem OwnN.on {w : World} {B : Nat} {v : Value} {L : List Nd} (h : OwnN w B v L) : ON w v L := h.mono (Nat.zero_le B)
theorem OT.rd {w : World} {v : Value} {L : List Txt} (h : OT w v L) : TxR w v L := OwnT.rd h
theorem ON.rd {w : World} {v : Value} {L : List Nd} (h : ON w v L) : SlRd w v L := OwnN.rd h
theorem OT.below {w w' : World} {v : Value} {L : List Txt} (h : OT w v L) (hb : Below w.heap.size w w') : OT w' v L := OwnT.below h hb
theorem ON.below {w w' : World} {v : Value} {L : List Nd} (h : ON w v L) (hb : Below w.heap.size w w') : ON w' v L := OwnN.below h hb
theorem OT.butS {w w' : World} {v : Value} {L : List Txt} (h : OT w v L) {st vb fb : Nat} (hs : StoS w st vb fb) (hb : ButS [st, vb, fb] w w') : OT w' v L := OwnT.butS h hs hb
theorem ON.butS {w w' : World} {v : Value} {L : List Nd} (h : ON w v L) {st vb fb : Nat} (hs : StoS w st vb fb) (hb : ButS [st, vb, fb] w w') : ON w' v L := OwnN.butS h hs hb
theorem OT.others {w w' : World} {v : Value} {L : List Txt} (h : OT w v L) {ts : List TypeId} (ho : Others ts w w') (ht : 9 ∉ ts) : OT w' v L :=
  let ⟨A, c, h1, h2⟩ := h
  ⟨A, c, h1, own_others h2 ho ht⟩
theorem ON.others {w w' : World} {v : Value} {L : List Nd} (h : ON w v L) {ts : List TypeId} (ho : Others ts w w') (ht : 62 ∉ ts) : ON w' v L :=
  let ⟨A, c, h1, h2⟩ := h
  ⟨A, c, h1, own_others h2 ho ht⟩
theorem OT.nil (w : World) : OT w (.slice none 0 0) [] := ⟨none, 0, rfl, World.ownsRow_nil _ _ _ _⟩
theorem OT.form {w : World} {v : Value} {L : List Txt} (h : OT w v L) : ∃ A c, v = .slice A L.length c := let ⟨A, c, h1, _⟩ := h; ⟨A, c, h1⟩

/-- The store in memory is x, its functions F; each map has N entries at most. -/
structure StI (w : World) (st vb fb N : Nat) (x : Sto) (F : List (Txt × List Nd)) : Prop where
  blk : ∃ va, Blk w st 37 #[.map (some vb), va, .map (some fb)] ∧ OT w va x.args
  vars : MapR OT w vb N (lookA x.vars)
  funs : MapR ON w fb N (lookA F)
  ne : vb ≠ fb
  sv : SortA x.vars
  sf : SortA F
theorem MapR.isMap {α : Type} {R : World → Value → α → Prop} {w : World} {b N : Nat} {B : List UInt8 → Option α} (h : MapR R w b N B) : ∃ es ck, w.heap[b]? = some (.map es ck) := by
  obtain ⟨F, ⟨D, ⟨es, clock, h1, _⟩, _⟩, _⟩ := h
  exact ⟨es, clock, h1⟩
theorem StI.s {w : World} {st vb fb N : Nat} {x : Sto} {F : List (Txt × List Nd)} (h : StI w st vb fb N x F) : StoS w st vb fb := by
  obtain ⟨va, h1, A, c, rfl, _⟩ := h.blk
  exact ⟨⟨_, _, _, _, _, h1⟩, h.vars.isMap, h.funs.isMap⟩
theorem StI.below {w w' : World} {st vb fb N : Nat} {x : Sto} {F : List (Txt × List Nd)} (h : StI w st vb fb N x F) (hb : Below w.heap.size w w') : StI w' st vb fb N x F :=
  ⟨let ⟨va, h1, h2⟩ := h.blk; ⟨va, h1.below hb, h2.below hb⟩, h.vars.below hb fun v x hx => OT.below hx hb, h.funs.below hb fun v x hx => ON.below hx hb, h.ne, h.sv, h.sf⟩
theorem StI.mono {w : World} {st vb fb N M : Nat} {x : Sto} {F : List (Txt × List Nd)} (h : StI w st vb fb N x F) (hm : N ≤ M) : StI w st vb fb M x F :=
  ⟨h.blk, h.vars.mono hm, h.funs.mono hm, h.ne, h.sv, h.sf⟩
theorem StI.stv {w : World} {st vb fb N : Nat} {x : Sto} {F : List (Txt × List Nd)} (h : StI w st vb fb N x F) : vb ≠ st ∧ fb ≠ st :=
  let ⟨va, h1, _⟩ := h.blk
  ⟨h.vars.notCells h1, h.funs.notCells h1⟩
/-- Only the arguments' cell has been set. -/
theorem StI.setArgs {w : World} {st vb fb N : Nat} {x : Sto} {F : List (Txt × List Nd)} (h : StI w st vb fb N x F) {v : Value} {l : List Txt} (hv : OT w v l) : StI (w.setCell ⟨st, 1, none⟩ v) st vb fb N ⟨x.vars, l⟩ F ∧ ButS [st, vb, fb] w (w.setCell ⟨st, 1, none⟩ v) := by
  have hb0 := But.set (B := st) w 1 v
  have hb : ButS [st, vb, fb] w (w.setCell ⟨st, 1, none⟩ v) := ButS.ofBut hb0 (by simp)
  obtain ⟨n1, n2⟩ := h.stv
  refine ⟨⟨?_, h.vars.keep (hb0.block _ h.vars.lt n1) fun u y hy => OT.butS hy h.s hb, h.funs.keep (hb0.block _ h.funs.lt n2) fun u y hy => ON.butS hy h.s hb, h.ne, h.sv, h.sf⟩, hb⟩
  obtain ⟨va, h1, _⟩ := h.blk
  exact ⟨v, by simpa using h1.set 1 v, hv.butS h.s hb⟩
/-- A variable has been put. -/
theorem StI.put {w : World} {st vb fb N : Nat} {x : Sto} {F : List (Txt × List Nd)} (h : StI w st vb fb N x F) {t e : TypeId} (ht : Try.prog.underlying t = some (.map 9 e)) (hN : N < maxLen) {n : Txt} (hn : n.length ≤ maxLen) {v : Value} {l : List Txt} (hv : OT w v l) :
    ∃ w', (Instr.mapUpdate t (.map (some vb)) (.string ⟨n.toArray⟩) v).run Try.prog w = .ok () w' ∧ StI w' st vb fb (N + 1) ⟨putA n l x.vars, x.args⟩ F ∧ ButS [st, vb, fb] w w' := by
  obtain ⟨w', hr, hm, hb0⟩ := h.vars.put ht hN hn hv fun w' v y hb hy => OT.butS hy h.s (ButS.ofBut hb (by simp))
  have hb : ButS [st, vb, fb] w w' := ButS.ofBut hb0 (by simp)
  obtain ⟨n1, n2⟩ := h.stv
  refine ⟨w', hr, ⟨?_, hm.congr fun s => (look_put n l s x.vars).symm, (h.funs.keep (hb0.block _ h.funs.lt (fun e => h.ne e.symm)) fun u y hy => ON.butS hy h.s hb).mono (Nat.le_succ N), h.ne, sort_put h.sv, h.sf⟩, hb⟩
  obtain ⟨va, h1, h2⟩ := h.blk
  exact ⟨va, hb0.blk h1 (fun e => n1 e.symm), h2.butS h.s hb⟩
theorem StI.drop {w : World} {st vb fb N : Nat} {x : Sto} {F : List (Txt × List Nd)} (h : StI w st vb fb N x F) {t e : TypeId} (ht : Try.prog.underlying t = some (.map 9 e)) {n : Txt} (hn : n.length ≤ maxLen) (ty : TypeId) :
    ∃ w', (Builtin.delete_ #[t, 9] ty #[.map (some vb), .string ⟨n.toArray⟩]).run Try.prog w = .ok (.tuple #[]) w' ∧ StI w' st vb fb N ⟨delA n x.vars, x.args⟩ F ∧ ButS [st, vb, fb] w w' := by
  obtain ⟨w', hr, hm, hb0⟩ := h.vars.drop ht hn ty fun w' v y hb hy => OT.butS hy h.s (ButS.ofBut hb (by simp))
  have hb : ButS [st, vb, fb] w w' := ButS.ofBut hb0 (by simp)
  obtain ⟨n1, n2⟩ := h.stv
  refine ⟨w', hr, ⟨?_, hm.congr fun s => (look_del n s x.vars).symm, h.funs.keep (hb0.block _ h.funs.lt (fun e => h.ne e.symm)) fun u y hy => ON.butS hy h.s hb, h.ne, sort_del h.sv, h.sf⟩, hb⟩
  obtain ⟨va, h1, h2⟩ := h.blk
  exact ⟨va, hb0.blk h1 (fun e => n1 e.symm), h2.butS h.s hb⟩
/-- A function has been put. -/
theorem StI.putF {w : World} {st vb fb N : Nat} {x : Sto} {F : List (Txt × List Nd)} (h : StI w st vb fb N x F) {t e : TypeId} (ht : Try.prog.underlying t = some (.map 9 e)) (hN : N < maxLen) {n : Txt} (hn : n.length ≤ maxLen) {v : Value} {l : List Nd} (hv : ON w v l) :
    ∃ w', (Instr.mapUpdate t (.map (some fb)) (.string ⟨n.toArray⟩) v).run Try.prog w = .ok () w' ∧ StI w' st vb fb (N + 1) x (putA n l F) ∧ ButS [st, vb, fb] w w' := by
  obtain ⟨w', hr, hm, hb0⟩ := h.funs.put ht hN hn hv fun w' v y hb hy => ON.butS hy h.s (ButS.ofBut hb (by simp))
  have hb : ButS [st, vb, fb] w w' := ButS.ofBut hb0 (by simp)
  obtain ⟨n1, n2⟩ := h.stv
  refine ⟨w', hr, ⟨?_, (h.vars.keep (hb0.block _ h.vars.lt h.ne) fun u y hy => OT.butS hy h.s hb).mono (Nat.le_succ N), hm.congr fun s => (look_put n l s F).symm, h.ne, h.sv, sort_put h.sf⟩, hb⟩
  obtain ⟨va, h1, h2⟩ := h.blk
  exact ⟨va, hb0.blk h1 (fun e => n2 e.symm), h2.butS h.s hb⟩
/-- Rows of other types, and not the maps, have changed. -/
theorem StI.others {w w' : World} {st vb fb N : Nat} {x : Sto} {F : List (Txt × List Nd)} (h : StI w st vb fb N x F) {ts : List TypeId} (ho : Others ts w w') (h1 : 9 ∉ ts) (h2 : 62 ∉ ts) (h3 : 37 ∉ ts) {b : Nat} (hb : Below b w w') (hvb : vb < b) (hfb : fb < b) : StI w' st vb fb N x F :=
  ⟨let ⟨va, q1, q2⟩ := h.blk; ⟨va, q1.others ho h3, q2.others ho h1⟩, h.vars.keep (hb.block _ hvb) fun v x hx => OT.others hx ho h1, h.funs.keep (hb.block _ hfb) fun v x hx => ON.others hx ho h2, h.ne, h.sv, h.sf⟩
end Go.Proofs.Ytclifaehbdeldaa
