/- The walk over package cscan's part, whatever the byte; what its caller does with a part. Bounds on the lengths. -/
import Derived.Test.YtlhpflilpdceiaaDoorScanP1
import Derived.Test.YtlhpflilpdceiaaDoorScanP2
import Derived.Test.YtlhpflilpdceiaaDoorScanP3
import Derived.Test.YtlhpflilpdceiaaDoorScanP4
import Derived.Maps.AppendAt
set_option linter.unusedVariables false
set_option linter.unusedSimpArgs false
namespace Go.Proofs.YtlhpflilpdceiaaDoor
open Go.RowKit

theorem part_any (B S : Nat) (s : ByteArray) (i : Nat) (Ls : List Addr) (w : World) (h : Rdr w B S s i) (hE : SenW w Ls) (hs : s.size ≤ 1000000) (hi : i < s.size) :
    Calls Tryd.prog 71 #[.pointer (some ⟨B, 0, none⟩)] w (PartRet (partA s.data.toList i) Ls w) := by
  by_cases h1 : s.data.toList[i]'hi = 92
  · exact part_esc_any B S s i Ls w h hE hs hi h1
  · by_cases h2 : s.data.toList[i]'hi = 36
    · exact part_dollar_any B S s i Ls w h hE hs hi h2
    · by_cases h3 : s.data.toList[i]'hi = 91
      · exact part_sub_any B S s i Ls w h hE hs hi h3
      · exact part_one_any B S s i Ls w h hE hs hi h1 h2 h3
theorem ba_app (x y : List UInt8) : (⟨x.toArray⟩ ++ ⟨y.toArray⟩ : ByteArray) = ⟨(x ++ y).toArray⟩ := by
  apply ByteArray.ext
  simp
/-- The errors lie below block n. -/
structure SenB (w : World) (Ls : List Addr) (n : Nat) : Prop where
  sen : SenW w Ls
  gs : ∀ g ∈ gsE, g < n
  ad : ∀ a ∈ Ls, a.block < n
theorem SenB.of {w : World} {Ls : List Addr} (h : SenW w Ls) : SenB w Ls w.heap.size := by
  refine ⟨h, fun g hg => ?_, fun a ha => ?_⟩
  · obtain ⟨i, hi, rfl⟩ := List.getElem_of_mem hg
    have hl : i < Ls.length := by rw [h.len]; exact hi
    exact World.block_lt_of_cell? _ _ (h.var i _ _ (List.getElem?_eq_getElem hi) (List.getElem?_eq_getElem hl))
  · obtain ⟨t, cs, hb⟩ := h.blk a ha
    exact hb.lt
theorem SenB.below {w w' : World} {Ls : List Addr} {n : Nat} (h : SenB w Ls n) (hb : Below w.heap.size w w') : SenB w' Ls n := ⟨h.sen.below hb, h.gs, h.ad⟩
theorem SenB.mono {w : World} {Ls : List Addr} {n m : Nat} (h : SenB w Ls n) (hm : n ≤ m) : SenB w Ls m := ⟨h.sen, fun g hg => Nat.lt_of_lt_of_le (h.gs g hg) hm, fun a ha => Nat.lt_of_lt_of_le (h.ad a ha) hm⟩
theorem SenB.but {w w' : World} {Ls : List Addr} {B : Nat} (h : SenB w Ls B) (hb : But B w w') : SenB w' Ls B := by
  refine ⟨⟨h.sen.len, fun i g a h1 h2 => hb.cell (h.sen.var i g a h1 h2) ?_, fun a ha => ?_, h.sen.inj⟩, h.gs, h.ad⟩
  · exact Nat.ne_of_lt (h.gs g (List.mem_of_getElem? h1))
  · obtain ⟨t, cs, hk⟩ := h.sen.blk a ha
    exact ⟨t, cs, hb.blk hk (Nat.ne_of_lt (h.ad a ha))⟩
/-- Where the reader stands. -/
def atW (w : World) (B : Nat) : Nat := match w.cell? ⟨B, 1, none⟩ with
  | some v => (intOf v).toNat
  | none => 0
theorem Rdr.at_ {w : World} {B S : Nat} {s : ByteArray} {i : Nat} (h : Rdr w B S s i) : atW w B = i := by
  unfold atW
  rw [h.c1]
  simp [intOf]
theorem partsA_stopped {L : List UInt8} {e : UInt8 → Bool} {i : Nat} (acc : List CPart) (h : stopA L e i = true) : partsA L e i acc = .ok acc i (L.drop i) := by
  by_cases hi : i < L.length
  · rw [stopA_in e hi] at h
    exact partsA_stop acc hi h
  · exact partsA_end e acc (by omega)
theorem stopA_no {L : List UInt8} {e : UInt8 → Bool} {i : Nat} (h : stopA L e i = false) : ∃ hi : i < L.length, e L[i] = false := by
  by_cases hi : i < L.length
  · exact ⟨hi, by rw [stopA_in e hi] at h; exact h⟩
  · rw [stopA_out e (by omega)] at h
    cases h
/-- A list with a last one. -/
theorem last_split {α : Type} {l : List α} (h : l ≠ []) : ∃ pre q, l = pre ++ [q] := ⟨l.dropLast, l.getLast h, (List.dropLast_concat_getLast h).symm⟩
theorem merge_text2 (pre : List CPart) (q p : CPart) (hp : p.kind = 1) (hq : q.kind = 1) : mergeP (pre ++ [q]) p = pre ++ [⟨1, q.pos, q.n, q.s ++ p.s⟩] := by
  unfold mergeP
  rw [List.getLast?_concat]
  simp only
  rw [if_pos ⟨hp, hq⟩, List.dropLast_concat]
theorem merge_more (pre : List CPart) (q p : CPart) (h : ¬ (p.kind = 1 ∧ q.kind = 1)) : mergeP (pre ++ [q]) p = (pre ++ [q]) ++ [p] := by
  unfold mergeP
  rw [List.getLast?_concat]
  simp only
  rw [if_neg h]
theorem set_last (pre : List CPart) (q : CPart) (u : List UInt8) (hq : q.kind = 1) : ((pre ++ [q]).flatMap cpc).set (pre.length * 4 + 3) (.string ⟨u.toArray⟩) = (pre ++ [(⟨1, q.pos, q.n, u⟩ : CPart)]).flatMap cpc := by
  rw [List.flatMap_append, List.flatMap_append, List.set_append_right _ _ (by rw [flat_len cpc_len]; omega), flat_len cpc_len, show pre.length * 4 + 3 - pre.length * 4 = 3 by omega]
  simp [cpc, hq]
/-- Parts, or an error; the reader has moved. -/
def PsRet (r : PsR) (Ls : List Addr) (B S : Nat) (s : ByteArray) (w : World) (e : Ending) (w' : World) : Prop := match r with
  | .err k a => ∃ v j, e = .returned (.tuple #[.slice none 0 0, v]) ∧ AtE w' Ls v k a ∧ Rdr w' B S s j ∧ But B w w'
  | .ok ps j _ => ∃ v, e = .returned (.tuple #[v, .nilIface]) ∧ OwnP 48 w' w.heap.size v ps ∧ Rdr w' B S s j ∧ But B w w'
theorem infoPart : (Tryd.prog.info? 48).map (fun i => (i.zero, i.size, i.bytes)) = some (some (.agg #[.int .i64 0, .int .i64 0, .int .i64 0, .string { data := #[] }]), 4, 40) := by kernel_rfl
end Go.Proofs.YtlhpflilpdceiaaDoor
