/- The walk over package cscan's Scan. Bounds on the lengths. -/
import Derived.Test.YtlhpflilpdceiaaDoorScanWB
set_option linter.unusedVariables false
set_option linter.unusedSimpArgs false
namespace Go.Proofs.YtlhpflilpdceiaaDoor
open Go.RowKit

theorem word_any (B S : Nat) (s : ByteArray) (i : Nat) (Ls : List Addr) (w : World) (h : Rdr w B S s i) (hE : SenB w Ls B) (hs : s.size ≤ 8192) (hi : i < s.size) :
    Calls Tryd.prog 30 #[.pointer (some ⟨B, 0, none⟩)] w (WdRet (wordA s.data.toList i) Ls B S s w) := by
  by_cases h1 : s.data.toList[i]'hi = 123
  · exact word_brace_any B S s i Ls w h hE hs hi h1
  · by_cases h2 : s.data.toList[i]'hi = 34
    · exact word_quo_any B S s i Ls w h hE hs hi h2
    · exact word_plain_any B S s i Ls w h hE hs hi h1 h2
abbrev tP : TypeId := 48
abbrev tW : TypeId := 36
abbrev tC : TypeId := 31
/-- Commands, or an error with a place. -/
def ScanRet (r : ScR) (Ls : List Addr) (w : World) (e : Ending) (w' : World) : Prop := match r with
  | .ok l => ∃ v, e = .returned (.tuple #[v, .nilIface]) ∧ OwnC tP tW tC w' w.heap.size v l ∧ Below w.heap.size w w'
  | .err k a => ∃ v, e = .returned (.tuple #[.slice none 0 0, v]) ∧ AtE w' Ls v k a ∧ Below w.heap.size w w'
theorem infoWord : (Tryd.prog.info? 36).map (fun i => (i.zero, i.size, i.bytes)) = some (some (.agg #[.int .i64 0, .bool false, .slice none 0 0]), 3, 40) := by kernel_rfl
theorem infoCmd : (Tryd.prog.info? 31).map (fun i => (i.zero, i.size, i.bytes)) = some (some (.agg #[.int .i64 0, .slice none 0 0]), 2, 32) := by kernel_rfl
theorem wd_one (a : Int) (b : Bool) (A : Option Addr) (n c : Nat) : ∀ u ∈ (#[.int .i64 a, .bool b, .slice A n c] : Array Value).toList, u.oneCell' = true := by
  intro u hu
  simp at hu
  rcases hu with rfl | rfl | rfl <;> rfl
/-- What the loop over a source keeps. -/
structure ScI (w w0 wr : World) (B S : Nat) (s : ByteArray) (i : Nat) (v7 v8 : Value) (ws : List CWord) (out : List CCmd) : Prop where
  oc : OwnC tP tW tC w0 w.heap.size v7 out
  rb : ∃ cs, Blk w0 B 79 cs
  bt : But B w0 wr
  ow : OwnW tP tW wr w0.heap.size v8 ws
  rd : Rdr wr B S s i
  bw : Below w.heap.size w wr
  sz : w.heap.size ≤ w0.heap.size
theorem ScI.out_ {w w0 wr : World} {B S : Nat} {s : ByteArray} {i : Nat} {v7 v8 : Value} {ws : List CWord} {out : List CCmd} (h : ScI w w0 wr B S s i v7 v8 ws out) : OwnC tP tW tC wr w.heap.size v7 out := by
  obtain ⟨cs, hB⟩ := h.rb
  exact h.oc.but h.bt hB (by decide) (by decide) (by decide)
theorem ScI.below {w w0 wr w' : World} {B S : Nat} {s : ByteArray} {i : Nat} {v7 v8 : Value} {ws : List CWord} {out : List CCmd} (h : ScI w w0 wr B S s i v7 v8 ws out) (hb : Below wr.heap.size wr w') : ScI w w0 w' B S s i v7 v8 ws out :=
  ⟨h.oc, h.rb, h.bt.trans (But.of hb), h.ow.below hb, h.rd.below hb, h.bw.trans (hb.mono h.bw.size), h.sz⟩
theorem ScI.move {w w0 wr : World} {B S : Nat} {s : ByteArray} {i : Nat} {v7 v8 : Value} {ws : List CWord} {out : List CCmd} (h : ScI w w0 wr B S s i v7 v8 ws out) (hB : w.heap.size ≤ B) (j : Nat) : ScI w w0 (wr.setCell ⟨B, 1, none⟩ (.int .i64 j)) B S s j v7 v8 ws out :=
  ⟨h.oc, h.rb, h.bt.trans (But.set _ 1 _), h.ow.but (But.set _ 1 _) h.rd.1 (by decide) (by decide), h.rd.set j, h.bw.setCell hB _, h.sz⟩
/-- The words become a command. -/
theorem ScI.flush {w w0 wr w4 : World} {B S : Nat} {s : ByteArray} {i : Nat} {v7 v8 : Value} {x : CWord} {ws : List CWord} {out : List CCmd} (h : ScI w w0 wr B S s i v7 v8 (x :: ws) out) {v : Value} {vs : List (CCmd × Value)} (h1 : vs.map Prod.fst = out) (h2 : ∀ p ∈ vs, OwnW tP tW wr w.heap.size p.2 p.1.words)
    (ho : w4.ownsRow w.heap.size tC 2 v (out.length + 1) (vs.flatMap cmc ++ [.int .i64 x.pos, v8])) (hb : Below w.heap.size wr w4) (hoo : Others [tC] wr w4) : ScI w w4 w4 B S s i v (.slice none 0 0) [] (flushC (x :: ws) out) := by
  have hR : Rdr w4 B S s i := ⟨h.rd.1.others hoo (by decide), h.rd.2.others hoo (by decide)⟩
  refine ⟨?_, ⟨_, hR.1⟩, But.refl _ _, OwnW.nil _ _, hR, h.bw.trans hb, Nat.le_trans h.bw.size hb.size⟩
  exact OwnC.push (x := ⟨x.pos, x :: ws⟩) h1 ho (fun p hp => (h2 p hp).others hoo (by decide) (by decide)) ((h.ow.others hoo (by decide) (by decide)).mono h.sz)
/-- One word more. -/
theorem ScI.word {w w0 wr w4 : World} {B S : Nat} {s : ByteArray} {i : Nat} {v7 v8 : Value} {x : CWord} {ws : List CWord} {out : List CCmd} (h : ScI w w0 wr B S s i v7 v8 ws out) {v u : Value} {vs : List (CWord × Value)} (h1 : vs.map Prod.fst = ws) (h2 : ∀ p ∈ vs, OwnP tP wr w0.heap.size p.2 p.1.parts) (h3 : OwnP tP wr w0.heap.size u x.parts)
    (ho : w4.ownsRow w0.heap.size tW 3 v (ws.length + 1) (vs.flatMap wdc ++ [.int .i64 x.pos, .bool x.braced, u])) (hb : Below w0.heap.size wr w4) (hoo : Others [tW] wr w4) : ScI w w0 w4 B S s i v7 v (ws ++ [x]) out := by
  refine ⟨h.oc, h.rb, h.bt.of2 hb, ?_, ⟨h.rd.1.others hoo (by decide), h.rd.2.others hoo (by decide)⟩, h.bw.trans (hb.mono h.sz), h.sz⟩
  exact OwnW.push (x := x) h1 ho (fun p hp => (h2 p hp).others hoo (by decide)) (h3.others hoo (by decide))
/-- .. where a word has been read. -/
theorem ScI.read {w w0 wr w' : World} {B S : Nat} {s : ByteArray} {i j : Nat} {v7 v8 : Value} {ws : List CWord} {out : List CCmd} (h : ScI w w0 wr B S s i v7 v8 ws out) (hB : w.heap.size ≤ B) (hb : But B wr w') (hr : Rdr w' B S s j) : ScI w w0 w' B S s j v7 v8 ws out :=
  ⟨h.oc, h.rb, h.bt.trans hb, h.ow.but hb h.rd.1 (by decide) (by decide), hr, h.bw.trans (hb.below hB h.bw.size), h.sz⟩
set_option maxRecDepth 100000 in
set_option maxHeartbeats 8000000 in
theorem scan_any (s : ByteArray) (Ls : List Addr) (w : World) (hE : SenW w Ls) (hs : s.size ≤ 8192) :
    Calls Tryd.prog 12 #[.string s] w (ScanRet (scanL 0 s.data.toList [] []) Ls w) := by
  obtain ⟨iW, hinfW, hzW0, hzW1, hzW2⟩ := info_parts infoWord
  obtain ⟨iC, hinfC, hzC0, hzC1, hzC2⟩ := info_parts infoCmd
  obtain ⟨w1, hw1⟩ : ∃ w1, w1 = (w.alloc (.cells #[.string s] 113)).alloc (.cells #[.pointer (some ⟨w.heap.size, 0, none⟩), .int .i64 0] 79) := ⟨_, rfl⟩
  obtain ⟨B, hBe⟩ : ∃ B, B = w.heap.size + 1 := ⟨_, rfl⟩
  obtain ⟨S, hSe⟩ : ∃ S, S = w.heap.size := ⟨_, rfl⟩
  have hb1 : Below w.heap.size w w1 := by rw [hw1]; exact below3 _ _ _
  have hR1 : Rdr w1 B S s 0 := by
    rw [hw1, hBe, hSe]
    have := Blk.new (w.alloc (.cells #[.string s] 113)) 79 #[.pointer (some ⟨w.heap.size, 0, none⟩), .int .i64 0]
    rw [alloc_size] at this
    exact ⟨this, (Blk.new w _ _).below ((Below.refl _ _).alloc (Nat.le_refl _) _)⟩
  have HI1 := Lib.hid (show ScI w w1 w1 B S s 0 (.slice none 0 0) (.slice none 0 0) [] [] from ⟨OwnC.nil _ _, ⟨_, hR1.1⟩, But.refl _ _, OwnW.nil _ _, hR1, hb1, hb1.size⟩)
  have HB := Lib.hid (show w.heap.size ≤ B by omega)
  have HSB := Lib.hid (SenB.of hE)
  have HNW := Lib.hid (fun W => snew_any s W hs)
  have HPK := Lib.hid (fun (W : World) (i : Nat) (hr : Rdr W B S s i) => peek_any B S s i W hr)
  have HWD := Lib.hid (fun (W : World) (i : Nat) (hi : i < s.size) (hb : Below w.heap.size w W) (hr : Rdr W B S s i) => word_any B S s i Ls W hr ((HSB.out.below hb).mono HB.out) hs hi)
  obtain ⟨L, hL⟩ : ∃ L, L = s.data.toList := ⟨_, rfl⟩
  have HN := Lib.hid (show L.length = s.size by rw [hL]; rfl)
  rw [← hL] at HPK HWD ⊢
  obtain ⟨R, hR⟩ : ∃ R, R = scanL 0 L [] [] := ⟨_, rfl⟩
  rw [← hR]
  have HR := Lib.hid (show R = scanA L 0 [] [] by rw [hR]; unfold scanA; rw [List.drop_zero])
  have HW1 := Lib.hid hw1
  have HBE := Lib.hid hBe
  have HSE := Lib.hid hSe
  clear hE hR1 hb1 hL hR hw1 hBe hSe
  go_enter Tryd.func12, Tryd.ntmps12
  go_wp2_with fail
  refine (HNW.out _).mono ?_
  rintro e wz ⟨rfl, rfl⟩
  go_upto_region 5 with (fail)
  rw [← HW1.out, ← HBE.out]
  clear HW1 HNW
  go_wp2_with fail
  go_loopw [7, 8] (fun v7 v8 wr => ∃ (i : Nat) (ws : List CWord) (out : List CCmd) (w0 : World), i ≤ s.size ∧ ws.length ≤ i ∧ out.length ≤ i ∧ ScI w w0 wr B S s i v7 v8 ws out ∧ Hid (R = scanA L i ws out)) (fun _ _ wr => s.size - atW wr B)
  case atStart => exact ⟨0, [], [], _, Nat.zero_le _, Nat.le_refl _, Nat.le_refl _, HI1.out, HR⟩
  case round =>
    obtain ⟨i, ws, out, w0, hi, hwl, hol, hI, H⟩ := hrel
    have HAT := Lib.hid hI.rd.at_
    have HI := Lib.hid hI
    obtain ⟨vs7, e71, o7, e72⟩ := hI.out_
    obtain ⟨vs8, e81, o8, e82⟩ := hI.ow
    obtain ⟨A7, c7, hv7, -, -, -, -⟩ := own_form o7
    obtain ⟨A8, c8, hv8, -, -, hA8, -⟩ := own_form o8
    subst hv7 hv8
    clear hI HI1 o7 o8 e71 e72 e81 e82 hA8
    obtain ⟨m, hm⟩ : ∃ m, m = ws.length := ⟨_, rfl⟩
    obtain ⟨q, hq⟩ : ∃ q, q = out.length := ⟨_, rfl⟩
    have HM := Lib.hid hm
    have HQ := Lib.hid hq
    rw [← hm, ← hq] at HI
    rw [← hm] at hwl ⊢
    rw [← hq] at hol ⊢
    clear hm hq
    by_cases hlt : i < s.size
    · have hlt' : i < L.length := by have := HN.out; omega
      by_cases h59 : L[i] = 59
      · have hB1 := byteV_in hlt'
        rw [h59] at hB1
        by_cases hm0 : m = 0
        · have hws : ws = [] := List.eq_nil_of_length_eq_zero (by rw [← HM.out]; exact hm0)
          subst hws
          subst hm0
          have HR2 := Lib.hid (show R = scanA L (i + 1) [] out by rw [H.out]; exact scanA_line [] out hlt' (by simp [h59]))
          have HBV := Lib.hid (show byteV L i = .tuple #[.int .u8 _, .bool true] from hB1)
          clear hB1 H
          try clear h59
          try clear h59
          go_wp2_with fail
          refine (HPK.out _ i HI.out.rd).mono ?_
          rw [HBV.out]
          rintro e w2 ⟨rfl, hb2⟩
          replace HI := Lib.hid (HI.out.below hb2)
          clear hb2
          have r1 := HI.out.rd.c1
          have f1 := HI.out.rd.1.frozen 1
          go_wp2_with fail
          have hIf := HI.out.move HB.out (i + 1)
          rw [Int.natCast_add, show ((1 : Nat) : Int) = 1 from rfl] at hIf
          go_roundw
          case rel => exact ⟨i + 1, [], out, _, by omega, by have := HM.out; omega, by have := HQ.out; omega, hIf, HR2⟩
          case measure => rw [HAT.out, hIf.rd.at_]; omega
        · obtain ⟨x, t, rfl⟩ : ∃ x t, ws = x :: t := by
            cases ws with
            | nil => exact absurd (by rw [HM.out]; rfl) hm0
            | cons x t => exact ⟨x, t, rfl⟩
          have hm1 : 0 < m := by omega
          have HR2 := Lib.hid (show R = scanA L (i + 1) [] (flushC (x :: t) out) by rw [H.out]; exact scanA_line (x :: t) out hlt' (by simp [h59]))
          have HBV := Lib.hid (show byteV L i = .tuple #[.int .u8 _, .bool true] from hB1)
          clear hB1 H hm0
          try clear h59
          try clear h59
          go_wp2_with fail
          refine (HPK.out _ i HI.out.rd).mono ?_
          rw [HBV.out]
          rintro e w2 ⟨rfl, hb2⟩
          replace HI := Lib.hid (HI.out.below hb2)
          clear hb2
          have r1 := HI.out.rd.c1
          have f1 := HI.out.rd.1.frozen 1
          obtain ⟨vs7, e71, o7, e72⟩ := HI.out.out_
          rw [← HQ.out] at o7
          have HO7 := Lib.hid o7
          obtain ⟨A9, c9, vs9, hv9, hvs9, hrd9, -, -⟩ := HI.out.ow.rd
          injection hv9 with hv91 hv92 hv93
          subst hv91
          have hl9 : 0 < vs9.length := by rw [← List.length_map (f := Prod.fst), hvs9]; simp
          obtain ⟨g9, g9o, hA9, -⟩ := hrd9.addr hl9
          subst hA9
          obtain ⟨x0, -, -⟩ := RdL.cwords hrd9 hl9
          have hx9 : vs9[0].1 = x := by
            have := List.getElem_map (f := Prod.fst) (l := vs9) (i := 0) (h := by rw [hvs9]; simp)
            rw [← this]
            simp only [hvs9]
            rfl
          rw [hx9] at x0
          simp only [Nat.zero_mul, Nat.add_zero] at x0
          have HSZ := Lib.hid HI.out.bw.size
          have HE71 := Lib.hid e71
          have HE72 := Lib.hid e72
          clear o7 e71 e72 hv92 hv93 hvs9 hrd9 hl9 hx9
          go_wp2_with (at_builtin; refine wpList_push rfl _ _ _ rfl Tryd.underlying24 hinfC hzC0 hzC1 hzC2 rfl (by decide) HO7.out rfl rfl rfl (by simp [Value.oneCell']) (by omega) (by decide) HSZ.out ?_; intro A4 c4 w4 ho4 hb4 hoo4; rw [HQ.out] at ho4; have hI4 := HI.out.flush HE71.out HE72.out ho4 hb4 hoo4; rw [← HQ.out] at hI4; have HI4 := Lib.hid hI4; have r4 := hI4.rd.c1; have f4 := hI4.rd.1.frozen 1; clear hI4 ho4 hb4 hoo4)
          replace HI := HI4
          have hIf := HI.out.move HB.out (i + 1)
          rw [Int.natCast_add, show ((1 : Nat) : Int) = 1 from rfl] at hIf
          go_roundw
          case rel => exact ⟨i + 1, [], flushC (x :: t) out, _, by omega, Nat.zero_le _, by have := HQ.out; have := flush_len (x :: t) out; omega, hIf, HR2⟩
          case measure => rw [HAT.out, hIf.rd.at_]; omega
      · by_cases h10 : L[i] = 10
        · have hB1 := byteV_in hlt'
          rw [h10] at hB1
          by_cases hm0 : m = 0
          · have hws : ws = [] := List.eq_nil_of_length_eq_zero (by rw [← HM.out]; exact hm0)
            subst hws
            subst hm0
            have HR2 := Lib.hid (show R = scanA L (i + 1) [] out by rw [H.out]; exact scanA_line [] out hlt' (by simp [h10]))
            have HBV := Lib.hid (show byteV L i = .tuple #[.int .u8 _, .bool true] from hB1)
            clear hB1 H
            try clear h10
            try clear h59
            go_wp2_with fail
            refine (HPK.out _ i HI.out.rd).mono ?_
            rw [HBV.out]
            rintro e w2 ⟨rfl, hb2⟩
            replace HI := Lib.hid (HI.out.below hb2)
            clear hb2
            have r1 := HI.out.rd.c1
            have f1 := HI.out.rd.1.frozen 1
            go_wp2_with fail
            have hIf := HI.out.move HB.out (i + 1)
            rw [Int.natCast_add, show ((1 : Nat) : Int) = 1 from rfl] at hIf
            go_roundw
            case rel => exact ⟨i + 1, [], out, _, by omega, by have := HM.out; omega, by have := HQ.out; omega, hIf, HR2⟩
            case measure => rw [HAT.out, hIf.rd.at_]; omega
          · obtain ⟨x, t, rfl⟩ : ∃ x t, ws = x :: t := by
              cases ws with
              | nil => exact absurd (by rw [HM.out]; rfl) hm0
              | cons x t => exact ⟨x, t, rfl⟩
            have hm1 : 0 < m := by omega
            have HR2 := Lib.hid (show R = scanA L (i + 1) [] (flushC (x :: t) out) by rw [H.out]; exact scanA_line (x :: t) out hlt' (by simp [h10]))
            have HBV := Lib.hid (show byteV L i = .tuple #[.int .u8 _, .bool true] from hB1)
            clear hB1 H hm0
            try clear h10
            try clear h59
            go_wp2_with fail
            refine (HPK.out _ i HI.out.rd).mono ?_
            rw [HBV.out]
            rintro e w2 ⟨rfl, hb2⟩
            replace HI := Lib.hid (HI.out.below hb2)
            clear hb2
            have r1 := HI.out.rd.c1
            have f1 := HI.out.rd.1.frozen 1
            obtain ⟨vs7, e71, o7, e72⟩ := HI.out.out_
            rw [← HQ.out] at o7
            have HO7 := Lib.hid o7
            obtain ⟨A9, c9, vs9, hv9, hvs9, hrd9, -, -⟩ := HI.out.ow.rd
            injection hv9 with hv91 hv92 hv93
            subst hv91
            have hl9 : 0 < vs9.length := by rw [← List.length_map (f := Prod.fst), hvs9]; simp
            obtain ⟨g9, g9o, hA9, -⟩ := hrd9.addr hl9
            subst hA9
            obtain ⟨x0, -, -⟩ := RdL.cwords hrd9 hl9
            have hx9 : vs9[0].1 = x := by
              have := List.getElem_map (f := Prod.fst) (l := vs9) (i := 0) (h := by rw [hvs9]; simp)
              rw [← this]
              simp only [hvs9]
              rfl
            rw [hx9] at x0
            simp only [Nat.zero_mul, Nat.add_zero] at x0
            have HSZ := Lib.hid HI.out.bw.size
            have HE71 := Lib.hid e71
            have HE72 := Lib.hid e72
            clear o7 e71 e72 hv92 hv93 hvs9 hrd9 hl9 hx9
            go_wp2_with (at_builtin; refine wpList_push rfl _ _ _ rfl Tryd.underlying24 hinfC hzC0 hzC1 hzC2 rfl (by decide) HO7.out rfl rfl rfl (by simp [Value.oneCell']) (by omega) (by decide) HSZ.out ?_; intro A4 c4 w4 ho4 hb4 hoo4; rw [HQ.out] at ho4; have hI4 := HI.out.flush HE71.out HE72.out ho4 hb4 hoo4; rw [← HQ.out] at hI4; have HI4 := Lib.hid hI4; have r4 := hI4.rd.c1; have f4 := hI4.rd.1.frozen 1; clear hI4 ho4 hb4 hoo4)
            replace HI := HI4
            have hIf := HI.out.move HB.out (i + 1)
            rw [Int.natCast_add, show ((1 : Nat) : Int) = 1 from rfl] at hIf
            go_roundw
            case rel => exact ⟨i + 1, [], flushC (x :: t) out, _, by omega, Nat.zero_le _, by have := HQ.out; have := flush_len (x :: t) out; omega, hIf, HR2⟩
            case measure => rw [HAT.out, hIf.rd.at_]; omega
        · by_cases h32 : L[i] = 32
          · have HR2 := Lib.hid (show R = scanA L (i + 1) ws out by rw [H.out]; exact scanA_blank ws out hlt' (by rintro (h | h) <;> contradiction) (.inl h32))
            have hB1 := byteV_in hlt'
            rw [h32] at hB1
            have HBV := Lib.hid (show byteV L i = .tuple #[.int .u8 32, .bool true] from hB1)
            clear h59 h10 h32 hB1 hlt' H
            go_wp2_with fail
            refine (HPK.out _ i HI.out.rd).mono ?_
            rw [HBV.out]
            rintro e w2 ⟨rfl, hb2⟩
            replace HI := Lib.hid (HI.out.below hb2)
            clear hb2
            have r1 := HI.out.rd.c1
            have f1 := HI.out.rd.1.frozen 1
            go_wp2_with fail
            have hIf := HI.out.move HB.out (i + 1)
            rw [Int.natCast_add, show ((1 : Nat) : Int) = 1 from rfl] at hIf
            go_roundw
            case rel => exact ⟨i + 1, ws, out, _, by omega, by have := HM.out; omega, by have := HQ.out; omega, hIf, HR2⟩
            case measure => rw [HAT.out, hIf.rd.at_]; omega
          · by_cases h9 : L[i] = 9
            · have HR2 := Lib.hid (show R = scanA L (i + 1) ws out by rw [H.out]; exact scanA_blank ws out hlt' (by rintro (h | h) <;> contradiction) (.inr h9))
              have hB1 := byteV_in hlt'
              rw [h9] at hB1
              have HBV := Lib.hid (show byteV L i = .tuple #[.int .u8 9, .bool true] from hB1)
              clear h59 h10 h32 h9 hB1 hlt' H
              go_wp2_with fail
              refine (HPK.out _ i HI.out.rd).mono ?_
              rw [HBV.out]
              rintro e w2 ⟨rfl, hb2⟩
              replace HI := Lib.hid (HI.out.below hb2)
              clear hb2
              have r1 := HI.out.rd.c1
              have f1 := HI.out.rd.1.frozen 1
              go_wp2_with fail
              have hIf := HI.out.move HB.out (i + 1)
              rw [Int.natCast_add, show ((1 : Nat) : Int) = 1 from rfl] at hIf
              go_roundw
              case rel => exact ⟨i + 1, ws, out, _, by omega, by have := HM.out; omega, by have := HQ.out; omega, hIf, HR2⟩
              case measure => rw [HAT.out, hIf.rd.at_]; omega
            · have n59 : (((L[i]).toNat : Int) == 59) = false := by rw [beq_eq_false_iff_ne]; exact int_ne (toNat_ne (d := 59) (by decide) h59)
              have n10 : (((L[i]).toNat : Int) == 10) = false := by rw [beq_eq_false_iff_ne]; exact int_ne (toNat_ne (d := 10) (by decide) h10)
              have n32 : (((L[i]).toNat : Int) == 32) = false := by rw [beq_eq_false_iff_ne]; exact int_ne (toNat_ne (d := 32) (by decide) h32)
              have n9 : (((L[i]).toNat : Int) == 9) = false := by rw [beq_eq_false_iff_ne]; exact int_ne (toNat_ne (d := 9) (by decide) h9)
              have hn1 : ¬ (L[i] = 59 ∨ L[i] = 10) := by rintro (h | h) <;> contradiction
              have hn2 : ¬ (L[i] = 32 ∨ L[i] = 9) := by rintro (h | h) <;> contradiction
              by_cases h35 : L[i] = 35
              · by_cases hm0 : m = 0
                · have hws : ws = [] := List.eq_nil_of_length_eq_zero (by rw [← HM.out]; exact hm0)
                  subst hws
                  subst hm0
                  have HR2 := Lib.hid (show R = cmtA L i [] out by rw [H.out]; exact scanA_cmt [] out hlt' h35 rfl)
                  have hB1 := byteV_in hlt'
                  rw [h35] at hB1
                  have HBV := Lib.hid (show byteV L i = .tuple #[.int .u8 35, .bool true] from hB1)
                  have HC35 := Lib.hid (show cAt L i = 35 by rw [cAt_in hlt', h35]; rfl)
                  clear n59 n10 n32 n9 hn1 hn2 h59 h10 h32 h9 h35 hB1 hlt' H
                  go_wp2_with fail
                  refine (HPK.out _ i HI.out.rd).mono ?_
                  rw [HBV.out]
                  rintro e w2 ⟨rfl, hb2⟩
                  replace HI := Lib.hid (HI.out.below hb2)
                  clear hb2
                  have r1 := HI.out.rd.c1
                  have f1 := HI.out.rd.1.frozen 1
                  clear r1 f1
                  go_wp2_with fail
                  go_loopw [9, 10] (fun c b wq => ∃ j : Nat, i ≤ j ∧ j ≤ s.size ∧ c = .int .u8 (cAt L j) ∧ b = .bool (decide (j < s.size)) ∧ ScI w w0 wq B S s j (.slice A7 q c7) (.slice A8 0 c8) [] out ∧ Hid (R = cmtA L j [] out)) (fun _ _ wq => s.size - atW wq B)
                  case atStart => exact ⟨i, Nat.le_refl _, hi, by rw [HC35.out]; rfl, by rw [decide_eq_true hlt], HI.out, HR2⟩
                  case round =>
                    obtain ⟨j, hij, hjs, rfl, rfl, hI2, H2⟩ := hrel
                    have HAT2 := Lib.hid hI2.rd.at_
                    have r1 := hI2.rd.c1
                    have f1 := hI2.rd.1.frozen 1
                    have HI2 := Lib.hid hI2
                    clear hI2 HI HR2
                    by_cases hj : j < s.size
                    · have hj' : j < L.length := by have := HN.out; omega
                      rw [decide_eq_true hj]
                      by_cases hc : L[j] = 10
                      · have hcv : cAt L j = 10 := by rw [cAt_in hj', hc]; rfl
                        have HR3 := Lib.hid (show R = scanA L j [] out by rw [H2.out]; exact cmtA_stop [] out hj' hc)
                        have hne : i ≠ j := fun e => by
                          have := HC35.out
                          rw [e, hcv] at this
                          cases this
                        rw [hcv]
                        clear hc hcv hj' H2 r1 f1
                        go_wp2_with fail
                        go_roundw
                        case rel => exact ⟨j, [], out, _, hjs, Nat.zero_le _, by have := HQ.out; omega, HI2.out, HR3⟩
                        case measure => rw [HAT.out, HI2.out.rd.at_]; omega
                      · have HR3 := Lib.hid (show R = cmtA L (j + 1) [] out by rw [H2.out]; exact cmtA_on [] out hj' hc)
                        have e1 : ((cAt L j : Int) == 10) = false := by
                          rw [beq_eq_false_iff_ne, cAt_in hj']
                          exact int_ne (toNat_ne (d := 10) (by decide) hc)
                        have e2 : ((cAt L j : Int) != 10) = true := by
                          rw [bne, e1]
                          rfl
                        generalize cAt L j = cc at *
                        have HIf := Lib.hid (show ScI w w0 (wr.setCell ⟨B, 1, none⟩ (.int .i64 ((j : Int) + 1))) B S s (j + 1) (.slice A7 q c7) (.slice A8 0 c8) [] out by
                          have := HI2.out.move HB.out (j + 1)
                          rwa [Int.natCast_add, show ((1 : Nat) : Int) = 1 from rfl] at this)
                        clear hc hj' H2
                        go_wp2_with fail
                        refine (HPK.out _ (j + 1) HIf.out.rd).mono ?_
                        rw [show byteV L (j + 1) = .tuple #[.int .u8 (cAt L (j + 1)), .bool (decide (j + 1 < s.size))] by unfold byteV; rw [HN.out]]
                        rintro e w5 ⟨rfl, hb5⟩
                        generalize hdd : decide (j + 1 < s.size) = dd
                        have HDD := Lib.hid hdd
                        clear hdd
                        generalize hc5 : cAt L (j + 1) = c5
                        have HC5 := Lib.hid hc5
                        clear hc5 e1 e2
                        have hI5 := HIf.out.below hb5
                        go_wp2_with fail
                        go_roundw
                        case rel => exact ⟨j + 1, by omega, by omega, by rw [HC5.out], by rw [HDD.out], hI5, HR3⟩
                        case measure => rw [HAT2.out, hI5.rd.at_]; omega
                    · have HR3 := Lib.hid (show R = scanA L j [] out by rw [H2.out]; exact cmtA_end [] out (by have := HN.out; omega))
                      rw [decide_eq_false hj]
                      generalize cAt L j = cc at *
                      clear H2 r1 f1
                      go_wp2_with fail
                      go_roundw
                      case rel => exact ⟨j, [], out, _, hjs, Nat.zero_le _, by have := HQ.out; omega, HI2.out, HR3⟩
                      case measure => rw [HAT.out, HI2.out.rd.at_]; omega
                · have hm1 : 0 < m := by omega
                  have hn3 : ¬ (L[i] = 35 ∧ ws.length = 0) := fun h => hm0 (by rw [HM.out]; exact h.2)
                  have hB1 := byteV_in hlt'
                  rw [h35] at hB1
                  have HBV := Lib.hid (show byteV L i = .tuple #[.int .u8 35, .bool true] from hB1)
                  have HSE1 := Lib.hid (fun k a (hw : wordA L i = .err k a) => scanA_err ws out hlt' hn1 hn2 hn3 hw)
                  have HSW1 := Lib.hid (fun x j r (hw : wordA L i = .ok x j r) => scanA_word ws out hlt' hn1 hn2 hn3 hw)
                  clear n59 n10 n32 n9 hn1 hn2 hn3 h59 h10 h32 h9 h35 hB1 hm0
                  go_wp2_with fail
                  refine (HPK.out _ i HI.out.rd).mono ?_
                  rw [HBV.out]
                  rintro e w2 ⟨rfl, hb2⟩
                  replace HI := Lib.hid (HI.out.below hb2)
                  clear hb2
                  have r1 := HI.out.rd.c1
                  have f1 := HI.out.rd.1.frozen 1
                  go_wp2_with fail
                  refine (HWD.out _ i hlt HI.out.bw HI.out.rd).mono ?_
                  cases hw : wordA L i with
                  | err k a =>
                    rintro e w3 ⟨p0, v, j, rfl, hE3, hR3, hB3⟩
                    have HRe := Lib.hid (show R = .err k a by rw [H.out]; exact HSE1.out k a hw)
                    have HE3 := Lib.hid hE3
                    obtain ⟨_, _, ge, _, _, hv, _, _⟩ := hE3
                    subst hv
                    have HB3 := Lib.hid (HI.out.bw.trans (hB3.below HB.out HI.out.bw.size))
                    clear hw hR3 hB3 r1 f1
                    go_wp2_with fail
                    go_ret2
                    rw [HRe.out]
                    have hbl : ∀ o, Below w3.heap.size w3 (w3.alloc o) := fun o => (Below.refl _ _).alloc (Nat.le_refl _) _
                    exact ⟨_, rfl, HE3.out.below (hbl _), HB3.out.trans ((hbl _).mono HB3.out.size)⟩
                  | ok x j r =>
                    rintro e w3 ⟨v, rfl, hO3, hR3, hB3⟩
                    obtain ⟨A3, c3, hv3, -, -, -, -⟩ := own_form hO3
                    subst hv3
                    obtain ⟨hRw, hij, hjn, -⟩ := HSW1.out x j r hw
                    have HR2 := Lib.hid (show R = scanA L j (ws ++ [x]) out by rw [H.out]; exact hRw)
                    have hbl : Below w3.heap.size w3 (w3.alloc (.cells #[.int .i64 x.pos, .bool x.braced, .slice A3 x.parts.length c3] 36)) := (Below.refl _ _).alloc (Nat.le_refl _) _
                    have HI3 := Lib.hid ((HI.out.read HB.out hB3 hR3).below hbl)
                    have HO3 := Lib.hid ((hO3.mono HI.out.bt.size).below hbl)
                    obtain ⟨vs8, e81, o8, e82⟩ := HI3.out.ow
                    rw [← HM.out] at o8
                    have HO8 := Lib.hid o8
                    have HE81 := Lib.hid e81
                    have HE82 := Lib.hid e82
                    have HSZ := Lib.hid HI3.out.bt.size
                    have hjs : j ≤ s.size := by have := HN.out; omega
                    have hk0 := Blk.new w3 36 #[.int .i64 x.pos, .bool x.braced, .slice A3 x.parts.length c3]
                    obtain ⟨K, hK⟩ : ∃ K, K = w3.heap.size := ⟨_, rfl⟩
                    clear hw hO3 hR3 hB3 hRw o8 e81 e82 r1 f1 hbl hjn
                    go_upto_region 9 with (fail)
                    rw [← hK] at hk0 ⊢
                    generalize w3.alloc (.cells #[.int .i64 x.pos, .bool x.braced, .slice A3 x.parts.length c3] 36) = wk at *
                    have k0 := hk0.cell 0
                    have k1 := hk0.cell 1
                    have k2 := hk0.cell 2
                    simp only [List.getElem?_toArray, List.getElem?_cons_zero, List.getElem?_cons_succ] at k0 k1 k2
                    clear hK hk0
                    go_wp2_with (at_builtin; refine wpList_push rfl _ _ _ rfl Tryd.underlying29 hinfW hzW0 hzW1 hzW2 rfl (by decide) HO8.out rfl rfl rfl (wd_one _ _ _ _ _) (by omega) (by decide) HSZ.out ?_; intro A4 c4 w4 ho4 hb4 hoo4; rw [HM.out] at ho4; have hI4 := HI3.out.word HE81.out HE82.out HO3.out ho4 hb4 hoo4; rw [← HM.out] at hI4; have HI4 := Lib.hid hI4; clear hI4 ho4 hb4 hoo4)
                    go_roundw
                    case rel => exact ⟨j, ws ++ [x], out, _, hjs, by have := HM.out; simp; omega, by have := HQ.out; omega, HI4.out, HR2⟩
                    case measure => rw [HAT.out, HI4.out.rd.at_]; omega
              · have n35 : (((L[i]).toNat : Int) == 35) = false := by rw [beq_eq_false_iff_ne]; exact int_ne (toNat_ne (d := 35) (by decide) h35)
                have hn3 : ¬ (L[i] = 35 ∧ ws.length = 0) := fun h => h35 h.1
                have hB1 := byteV_in hlt'
                have HSE1 := Lib.hid (fun k a (hw : wordA L i = .err k a) => scanA_err ws out hlt' hn1 hn2 hn3 hw)
                have HSW1 := Lib.hid (fun x j r (hw : wordA L i = .ok x j r) => scanA_word ws out hlt' hn1 hn2 hn3 hw)
                clear hn1 hn2 hn3 h59 h10 h32 h9 h35
                have HBV := Lib.hid hB1
                clear hB1
                generalize (L[i]).toNat = c at *
                go_wp2_with fail
                refine (HPK.out _ i HI.out.rd).mono ?_
                rw [HBV.out]
                rintro e w2 ⟨rfl, hb2⟩
                replace HI := Lib.hid (HI.out.below hb2)
                clear hb2
                have r1 := HI.out.rd.c1
                have f1 := HI.out.rd.1.frozen 1
                go_wp2_with fail
                refine (HWD.out _ i hlt HI.out.bw HI.out.rd).mono ?_
                cases hw : wordA L i with
                | err k a =>
                  rintro e w3 ⟨p0, v, j, rfl, hE3, hR3, hB3⟩
                  have HRe := Lib.hid (show R = .err k a by rw [H.out]; exact HSE1.out k a hw)
                  have HE3 := Lib.hid hE3
                  obtain ⟨_, _, ge, _, _, hv, _, _⟩ := hE3
                  subst hv
                  have HB3 := Lib.hid (HI.out.bw.trans (hB3.below HB.out HI.out.bw.size))
                  clear hw hR3 hB3 r1 f1
                  go_wp2_with fail
                  go_ret2
                  rw [HRe.out]
                  have hbl : ∀ o, Below w3.heap.size w3 (w3.alloc o) := fun o => (Below.refl _ _).alloc (Nat.le_refl _) _
                  exact ⟨_, rfl, HE3.out.below (hbl _), HB3.out.trans ((hbl _).mono HB3.out.size)⟩
                | ok x j r =>
                  rintro e w3 ⟨v, rfl, hO3, hR3, hB3⟩
                  obtain ⟨A3, c3, hv3, -, -, -, -⟩ := own_form hO3
                  subst hv3
                  obtain ⟨hRw, hij, hjn, -⟩ := HSW1.out x j r hw
                  have HR2 := Lib.hid (show R = scanA L j (ws ++ [x]) out by rw [H.out]; exact hRw)
                  have hbl : Below w3.heap.size w3 (w3.alloc (.cells #[.int .i64 x.pos, .bool x.braced, .slice A3 x.parts.length c3] 36)) := (Below.refl _ _).alloc (Nat.le_refl _) _
                  have HI3 := Lib.hid ((HI.out.read HB.out hB3 hR3).below hbl)
                  have HO3 := Lib.hid ((hO3.mono HI.out.bt.size).below hbl)
                  obtain ⟨vs8, e81, o8, e82⟩ := HI3.out.ow
                  rw [← HM.out] at o8
                  have HO8 := Lib.hid o8
                  have HE81 := Lib.hid e81
                  have HE82 := Lib.hid e82
                  have HSZ := Lib.hid HI3.out.bt.size
                  have hjs : j ≤ s.size := by have := HN.out; omega
                  have hk0 := Blk.new w3 36 #[.int .i64 x.pos, .bool x.braced, .slice A3 x.parts.length c3]
                  obtain ⟨K, hK⟩ : ∃ K, K = w3.heap.size := ⟨_, rfl⟩
                  clear hw hO3 hR3 hB3 hRw o8 e81 e82 r1 f1 hbl hjn
                  go_upto_region 9 with (fail)
                  rw [← hK] at hk0 ⊢
                  generalize w3.alloc (.cells #[.int .i64 x.pos, .bool x.braced, .slice A3 x.parts.length c3] 36) = wk at *
                  have k0 := hk0.cell 0
                  have k1 := hk0.cell 1
                  have k2 := hk0.cell 2
                  simp only [List.getElem?_toArray, List.getElem?_cons_zero, List.getElem?_cons_succ] at k0 k1 k2
                  clear hK hk0
                  go_wp2_with (at_builtin; refine wpList_push rfl _ _ _ rfl Tryd.underlying29 hinfW hzW0 hzW1 hzW2 rfl (by decide) HO8.out rfl rfl rfl (wd_one _ _ _ _ _) (by omega) (by decide) HSZ.out ?_; intro A4 c4 w4 ho4 hb4 hoo4; rw [HM.out] at ho4; have hI4 := HI3.out.word HE81.out HE82.out HO3.out ho4 hb4 hoo4; rw [← HM.out] at hI4; have HI4 := Lib.hid hI4; clear hI4 ho4 hb4 hoo4)
                  go_roundw
                  case rel => exact ⟨j, ws ++ [x], out, _, hjs, by have := HM.out; simp; omega, by have := HQ.out; omega, HI4.out, HR2⟩
                  case measure => rw [HAT.out, HI4.out.rd.at_]; omega
    · have hge : L.length ≤ i := by have := HN.out; omega
      have HBV := Lib.hid (byteV_out hge)
      have HR2 := Lib.hid (show R = .ok (flushC ws out) by rw [H.out]; exact scanA_end ws out hge)
      by_cases hm0 : m = 0
      · have hws : ws = [] := List.eq_nil_of_length_eq_zero (by rw [← HM.out]; exact hm0)
        subst hws
        subst hm0
        clear hge H
        go_wp2_with fail
        refine (HPK.out _ i HI.out.rd).mono ?_
        rw [HBV.out]
        rintro e w2 ⟨rfl, hb2⟩
        replace HI := Lib.hid (HI.out.below hb2)
        clear hb2
        have r1 := HI.out.rd.c1
        have f1 := HI.out.rd.1.frozen 1
        go_wp2_with fail
        go_ret2
        rw [HR2.out]
        exact ⟨_, rfl, HI.out.out_, HI.out.bw⟩
      · obtain ⟨x, t, rfl⟩ : ∃ x t, ws = x :: t := by
          cases ws with
          | nil => exact absurd (by rw [HM.out]; rfl) hm0
          | cons x t => exact ⟨x, t, rfl⟩
        have hm1 : 0 < m := by omega
        clear hge H hm0
        go_wp2_with fail
        refine (HPK.out _ i HI.out.rd).mono ?_
        rw [HBV.out]
        rintro e w2 ⟨rfl, hb2⟩
        replace HI := Lib.hid (HI.out.below hb2)
        clear hb2
        have r1 := HI.out.rd.c1
        have f1 := HI.out.rd.1.frozen 1
        obtain ⟨vs7, e71, o7, e72⟩ := HI.out.out_
        rw [← HQ.out] at o7
        have HO7 := Lib.hid o7
        obtain ⟨A9, c9, vs9, hv9, hvs9, hrd9, -, -⟩ := HI.out.ow.rd
        injection hv9 with hv91 hv92 hv93
        subst hv91
        have hl9 : 0 < vs9.length := by rw [← List.length_map (f := Prod.fst), hvs9]; simp
        obtain ⟨g9, g9o, hA9, -⟩ := hrd9.addr hl9
        subst hA9
        obtain ⟨x0, -, -⟩ := RdL.cwords hrd9 hl9
        have hx9 : vs9[0].1 = x := by
          have := List.getElem_map (f := Prod.fst) (l := vs9) (i := 0) (h := by rw [hvs9]; simp)
          rw [← this]
          simp only [hvs9]
          rfl
        rw [hx9] at x0
        simp only [Nat.zero_mul, Nat.add_zero] at x0
        have HSZ := Lib.hid HI.out.bw.size
        have HE71 := Lib.hid e71
        have HE72 := Lib.hid e72
        clear o7 e71 e72 hv92 hv93 hvs9 hrd9 hl9 hx9
        go_wp2_with (at_builtin; refine wpList_push rfl _ _ _ rfl Tryd.underlying24 hinfC hzC0 hzC1 hzC2 rfl (by decide) HO7.out rfl rfl rfl (by simp [Value.oneCell']) (by omega) (by decide) HSZ.out ?_; intro A4 c4 w4 ho4 hb4 hoo4; rw [HQ.out] at ho4; have hI4 := HI.out.flush HE71.out HE72.out ho4 hb4 hoo4; rw [← HQ.out] at hI4; have HI4 := Lib.hid hI4; have r4 := hI4.rd.c1; have f4 := hI4.rd.1.frozen 1; clear hI4 ho4 hb4 hoo4)
        replace HI := HI4
        go_ret2
        rw [HR2.out]
        exact ⟨_, rfl, HI.out.out_, HI.out.bw⟩
end Go.Proofs.YtlhpflilpdceiaaDoor
