/- Texts joined, escaped, made plain, flat: what chapter 17's pass makes of them, with no program in sight. No condition. -/
import Derived.Test.YthmeonimianoeaaDoorConL
set_option linter.unusedVariables false
set_option linter.unusedSimpArgs false
namespace Go.Proofs.YthmeonimianoeaaDoor

def txT (s : List UInt8) : Tr := .mk 1 0 s []
theorem tx_flat (L : List (List UInt8)) : ∀ t ∈ L.map txT, isLit t = true := fun t h => by
  obtain ⟨s, _, rfl⟩ := List.mem_map.1 h
  rfl
theorem full_tx : ∀ (c : Nat) (L : List (List UInt8)), ∃ L' : List (List UInt8), fullF c (L.map txT) = L'.map txT ∧ L'.flatten = L.flatten
  | _, [] => ⟨[], by rw [List.map_nil, fullF], rfl⟩
  | c, s :: L => by
    rw [List.map_cons, fullF]
    split
    · rename_i h
      obtain ⟨L', h1, h2⟩ := full_tx c L
      refine ⟨L', h1, ?_⟩
      rw [Bool.and_eq_true] at h
      have hs : s = [] := by
        have := h.1
        simpa [emptyB, isLit, txT, Tr.str, Tr.kind] using this
      rw [h2, hs]
      rfl
    · obtain ⟨L', h1, h2⟩ := full_tx (c + 1) L
      exact ⟨s :: L', by rw [h1]; rfl, by rw [List.flatten_cons, List.flatten_cons, h2]⟩
theorem mrg_tx : ∀ (L : List (List UInt8)) (s : List UInt8), (s ++ L.flatten).length ≤ 2000 → mrg (txT s) (L.map txT) = [txT (s ++ L.flatten)]
  | [], s, _ => by rw [List.map_nil, mrg, List.flatten_nil, List.append_nil]
  | u :: L, s, h => by
    rw [List.flatten_cons] at h ⊢
    have hf : fits (txT s) (txT u) = true := by
      unfold fits
      rw [List.length_append, List.length_append] at h
      simp only [Bool.and_eq_true, decide_eq_true_eq, beq_iff_eq]
      exact ⟨⟨⟨rfl, rfl⟩, rfl⟩, by show s.length + u.length ≤ 2000; omega⟩
    rw [List.map_cons, mrg, if_pos hf]
    show mrg (txT (s ++ u)) (L.map txT) = _
    rw [mrg_tx L (s ++ u) (by rw [List.append_assoc]; exact h), List.append_assoc]
def txJ (L : List (List UInt8)) : Tr := .mk 4 0 [] (L.map txT)
theorem headJ_tx (L : List (List UInt8)) : headJ (L.map txT) = false := by
  cases L with
  | nil => rfl
  | cons s L => rfl
theorem const_tx (s : List UInt8) : constT (txT s) = txT s := by rw [txT, constT_mk]; rfl
theorem consts_tx (L : List (List UInt8)) : constTs (L.map txT) = L.map txT := by
  rw [constTs_map, List.map_map]
  exact List.map_congr_left (fun s _ => const_tx s)
/-- Texts joined are one text. -/
theorem const_txJ (L : List (List UInt8)) (hne : L ≠ []) (hl : L.flatten.length ≤ 2000) : constT (txJ L) = txT L.flatten := by
  rw [txJ, constT_mk, consts_tx]
  show joinT (L.map txT) = _
  unfold joinT
  obtain ⟨L', h1, h2⟩ := full_tx 0 L
  have hop : opn (sizeL (L.map txT)) (L.map txT) = L'.map txT := by
    cases hsz : sizeL (L.map txT) with
    | zero =>
      have := sizeL_len (L.map txT)
      rw [hsz, List.length_map] at this
      have := List.length_pos_iff.2 hne
      omega
    | succ n => rw [opn, unj_stop (headJ_tx L), h1, if_neg (by rw [headJ_tx]; exact Bool.noConfusion)]
  rw [hop]
  have hne' : L' ≠ [] := by
    intro he
    have := full_ne 0 (L.map txT) (by omega) (fun h => hne (List.map_eq_nil_iff.1 h))
    rw [h1, he] at this
    exact this rfl
  cases L' with
  | nil => exact absurd rfl hne'
  | cons s L' =>
    rw [List.flatten_cons] at h2
    show joinO (mrg (txT s) (L'.map txT)) = _
    rw [mrg_tx L' s (by rw [h2]; exact hl), h2]
    rfl
/-- A word of one child. -/
def unT (kd n : Int) (t : Tr) : Tr := .mk kd n [] [t]
theorem const_un (kd n : Int) (t : Tr) : constT (unT kd n t) = constK kd n [] [constT t] := by rw [unT, constT_mk]; rfl
theorem escape_len (l : List UInt8) : (escapeL l).length ≤ 2 * l.length := by
  induction l with
  | nil => simp [escapeL]
  | cons c l ih =>
    have h : escapeL (c :: l) = (if escB c then [92, c] else [c]) ++ escapeL l := rfl
    rw [h, List.length_append, List.length_cons]
    split
    · simp only [List.length_cons, List.length_nil]; omega
    · simp only [List.length_cons, List.length_nil]; omega
section
variable {t : Tr} {s : List UInt8}
theorem const_esc (h : constT t = txT s) (hl : s.length ≤ 1000) : constT (unT 8 0 t) = .mk 1 1 (escapeL s) [] := by
  rw [const_un, h]
  show (if (escapeL s).length ≤ 2000 then Tr.mk 1 1 (escapeL s) [] else Tr.mk 8 0 [] [txT s]) = _
  exact if_pos (by have := escape_len s; omega)
theorem const_plain (h : constT t = txT s) (hl : s.length ≤ 1000) : constT (unT 7 0 (unT 8 0 t)) = txT s := by
  rw [const_un, const_esc h hl]
  show Tr.mk 1 0 (plainL (escapeL s)) [] = _
  rw [plain_escape]
  rfl
theorem const_glob (h : constT t = txT s) (hl : s.length ≤ 1000) : constT (unT 6 0 (unT 8 0 t)) = txT s := by
  rw [const_un, const_esc h hl]
  show (if liveL (escapeL s) then Tr.mk 6 0 [] [.mk 1 1 (escapeL s) []] else Tr.mk 1 0 (plainL (escapeL s)) []) = _
  rw [live_escape, if_neg Bool.noConfusion, plain_escape]
  rfl
theorem const_flat (h : constT t = txT s) : constT (unT 9 0 (unT 11 1 t)) = txT s := by
  have h1 : constT (unT 11 1 t) = txT s := by
    rw [const_un, h]
    rfl
  rw [const_un, h1]
  rfl
theorem const_count (h : constT t = txT s) : constT (unT 10 0 t) = txT [49] := by
  rw [const_un, h]
  rfl
end
theorem un_ok {d : Nat} {kd n : Int} {t : Tr} (hk : kd = 6 ∨ kd = 7 ∨ kd = 8 ∨ kd = 9 ∨ kd = 10 ∨ (kd = 11 ∧ n = 1)) (hn : kd ≠ 11 → n = 0) (h : okT d true t = true) : okT (d + 1) true (unT kd n t) = true := by
  rw [unT, okT]
  simp only [Bool.and_eq_true]
  rw [okAll, okAll, Bool.and_true]
  rcases hk with rfl | rfl | rfl | rfl | rfl | ⟨rfl, rfl⟩
  · obtain rfl := hn (by decide)
    exact ⟨⟨⟨by decide, by decide⟩, rfl⟩, h⟩
  · obtain rfl := hn (by decide)
    exact ⟨⟨⟨by decide, by decide⟩, rfl⟩, h⟩
  · obtain rfl := hn (by decide)
    exact ⟨⟨⟨by decide, by decide⟩, rfl⟩, h⟩
  · obtain rfl := hn (by decide)
    exact ⟨⟨⟨by decide, by decide⟩, rfl⟩, h⟩
  · obtain rfl := hn (by decide)
    exact ⟨⟨⟨by decide, by decide⟩, rfl⟩, h⟩
  · exact ⟨⟨⟨by decide, by decide⟩, rfl⟩, h⟩
theorem txJ_ok {d : Nat} {L : List (List UInt8)} (hne : L ≠ []) (hl : ∀ s ∈ L, s.length ≤ 2000) : okT (d + 2) true (txJ L) = true :=
  listW_ok (.inr rfl) (fun t ht => by
    obtain ⟨s, hs, rfl⟩ := List.mem_map.1 ht
    exact lit_ok (.inl rfl) (hl s hs)) (fun _ h => hne (List.map_eq_nil_iff.1 h))
theorem un_len (kd n : Int) (t : Tr) : (flat (unT kd n t)).length = 1 + (flat t).length := one_len
theorem tx_len (s : List UInt8) : (flat (txT s)).length = 1 := by rw [txT, flat_size, flatAll_nil]; rfl
theorem txs_len : ∀ L : List (List UInt8), sizeL (L.map txT) = L.length
  | [] => sizeL_nil
  | s :: L => by rw [List.map_cons, sizeL_cons, txs_len L, tx_len, List.length_cons]; omega
theorem txJ_len (L : List (List UInt8)) : (flat (txJ L)).length = 1 + L.length := by
  rw [txJ, flat_size]
  have := txs_len L
  unfold sizeL at this
  rw [this]
end Go.Proofs.YthmeonimianoeaaDoor
