/- The walk of the reference's record of a block's words. -/
import Derived.Test.YtliaemoomhfcdaaRefR
import Derived.Test.YtliaemoomhfcdaaRefNW
namespace Go.Proofs.Ytliaemoomhfcdaa
open Go.RowKit Go.Proofs.YtliaemoomhfcdaaW.PrintWords
set_option maxHeartbeats 2000000
set_option maxRecDepth 100000
set_option linter.unusedVariables false
set_option linter.unusedSimpArgs false

theorem res_rrec {tmps : Array Value} {W : World} {g : Nat} {k c : Int} {a b : ByteArray} {v : Value} (hp : tmps.getD 4 undef = .pointer (some ⟨g, 0, none⟩)) (hv : tmps.getD 5 undef = v)
    (h : W.heap[g]? = some (.cells #[.int .i64 k, .string a, .string b, .int .i64 c] 62 (0, 0))) :
    (results Try.f43 tmps).run Try.prog W = .ok (.tuple #[.agg #[.int .i64 k, .string a, .string b, .int .i64 c], v]) W := by
  rw [results_cell_tmp (p := 4) (u := 5) (ty := 62) rfl, hp, hv]
  have h1 := run_loadVar_row (P := Try.prog) W g 62 62 _ _ _ h Try.underlying62 rfl (by kernel_rfl)
  have h2 : (asAddr (.pointer (some ⟨g, 0, none⟩))).run Try.prog W = .ok ⟨g, 0, none⟩ W := by simp [asAddr]
  rw [h2]
  show ((loadVar 62 ⟨g, 0, none⟩).run Try.prog W).andThen _ = _
  rw [h1]
  rfl
theorem whole_call (A : Option Addr) (c : Nat) (xs : List Int) (b : Int) (w : World) (h : RI w A xs.length xs) (hn : xs.length ≤ 60000) (hc : xs.length ≤ c) (q : Bool) (hq : q = (decide (0 ≤ b) && decide (b < (xs.length : Int) / 16))) :
    Calls Try.prog 79 #[.slice A xs.length c, .int .i64 b] w fun e w' => e = .returned (.bool q) ∧ Drawn0 w w' := by
  refine RR.lamplighterref07_whole.calls A c xs b q w (C_of_RI h (by omega)) hc ?_
  unfold RR.lamplighterref07_whole.f
  by_cases h0 : b ≥ 0
  · rw [if_pos h0]
    by_cases h1 : b < 4096
    · rw [if_pos h1, w64_id (x := 16 * b) (by omega) (by omega), w64_id (by omega) (by omega), hq, decide_eq_true (show 0 ≤ b from h0), Bool.true_and]
      exact congrArg some (decide_eq_decide.2 (by omega))
    · rw [if_neg h1, hq, decide_eq_false (show ¬ b < (xs.length : Int) / 16 by omega), Bool.and_false]
  · rw [if_neg h0, hq, decide_eq_false (show ¬ 0 ≤ b from h0), Bool.false_and]
theorem rrec_bad (A : Option Addr) (c : Nat) (xs : List Int) (b : Int) (w : World) (h : RI w A xs.length xs) (hn : xs.length ≤ 60000) (hc : xs.length ≤ c) (hb : b < 0 ∨ (xs.length : Int) / 16 ≤ b) :
    Calls Try.prog 43 #[.slice A xs.length c, .int .i64 b] w (RecPost (PRec.zero, 1) w) := by
  have hq : false = (decide (0 ≤ b) && decide (b < (xs.length : Int) / 16)) := by
    rcases hb with hb | hb
    · rw [decide_eq_false (show ¬ 0 ≤ b by omega)]; rfl
    · rw [decide_eq_false (show ¬ b < (xs.length : Int) / 16 by omega)]; simp
  have HW := Lib.hid (fun W (hW : Below w.heap.size w W) => whole_call A c xs b W (h.below hW) hn hc false hq)
  clear hq h
  go_enter Try.func43, Try.ntmps43
  go_wp2_with (first
    | (go_at_call 79; refine (HW.out _ ((Below.refl _ _).alloc (Nat.le_refl _) _)).mono ?_; rintro e w1 ⟨rfl, hD⟩; have hb1 := ((Below.refl w.heap.size w).alloc (Nat.le_refl _) (.cells #[Value.int .i64 0, Value.string ⟨#[]⟩, Value.string ⟨#[]⟩, Value.int .i64 0] 62)).next hD.below; have hz1 : w1.heap[w.heap.size]? = some (.cells #[Value.int .i64 0, Value.string ⟨#[]⟩, Value.string ⟨#[]⟩, Value.int .i64 0] 62 (0, 0)) := (hD.below.block _ (by simp)).trans (heap_alloc_new _ _))
    | (refine wpList_store_row rfl 62 _ _ rfl w.heap.size #[Value.int .i64 0, Value.string ⟨#[]⟩, Value.string ⟨#[]⟩, Value.int .i64 0] rfl rfl 62 #[Value.int .i64 0, Value.string ⟨#[]⟩, Value.string ⟨#[]⟩, Value.int .i64 0] hz1 (by kernel_rfl) rfl (by simp [Value.oneCell']) ?_))
  exact bodyPost_ret (res_rrec rfl rfl (setRow_heap _ _ _ _ _ _ hz1)) rfl ⟨rfl, below_setRow hb1 (Nat.le_refl _) _⟩
theorem text_call (A : Option Addr) (a c : Nat) (l : List Int) (n : Nat) (t : ByteArray) (e0 : Int) (w : World) (h : RI w A a l) (hc : a ≤ c) (ha : a = (n + 6) / 7) (hn : n ≤ 100) (ht : textOf l n = (t, e0)) :
    Calls Try.prog 80 #[.slice A a c, .int .i64 (n : Int)] w fun e w' => e = .returned (.tuple #[.string t, .int .i64 e0]) ∧ Below w.heap.size w w' := by
  obtain rfl := h.len
  exact RR.lamplighterref02_Text.calls 1000 A c l n t e0 w (C_of_RI h (by omega)) hc (by rw [reft_is 1000 l n ha (by omega) (by omega), ht])
theorem rrec_good (A : Option Addr) (c : Nat) (xs : List Int) (b : Nat) (w : World) (h : RI w A xs.length xs) (hn : xs.length ≤ 60000) (hc : xs.length ≤ c) (hb : 16 * b + 16 ≤ xs.length) :
    Calls Try.prog 43 #[.slice A xs.length c, .int .i64 (b : Int)] w (RecPost (refRec16 (blockOf xs b)) w) := by
  have hq : true = (decide (0 ≤ (b : Int)) && decide ((b : Int) < (xs.length : Int) / 16)) := by
    rw [decide_eq_true (show 0 ≤ (b : Int) by omega), decide_eq_true (show (b : Int) < (xs.length : Int) / 16 by omega)]; rfl
  have HW := Lib.hid (fun W (hW : Below w.heap.size w W) => whole_call A c xs b W (h.below hW) hn hc true hq)
  have hlen : (blockOf xs b).length = 16 := by unfold blockOf; rw [List.length_take, List.length_drop]; omega
  obtain ⟨ad, x0, rfl, _, _, _⟩ := h.at_ (k := 0) (by omega)
  have hri : RI w (some (ad.add (16 * b))) 16 (blockOf xs b) := by
    have := RI.dropc h (k := 16 * b) (by omega) hc (by omega)
    exact RI.take this (by omega)
  generalize blockOf xs b = f at hlen hri ⊢
  generalize xs.length = n at *
  have HLN := Lib.hid hlen
  have HRI := Lib.hid hri
  have hcap : ¬ c = 16 * b := by omega
  have hI0 : (0 : Int) ≤ 16 * (b : Int) := by omega
  have hI1 : (16 : Int) * (b : Int) ≤ 16 * (b : Int) + 16 := by omega
  have hI2 : (16 : Int) * (b : Int) + 16 ≤ (c : Int) := by omega
  have hI6 : (16 : Int) * (b : Int) + 16 ≤ (n : Int) := by omega
  have hI3 : (16 * (b : Int)).toNat = 16 * b := by omega
  have hI5 : (16 * (b : Int) + 16).toNat - 16 * b = 16 := by omega
  have hI4 : IntKind.i64.wrap (16 * (b : Int)) = 16 * (b : Int) := by rw [IntKind.wrap_i64]; omega
  have hI8 : IntKind.i64.wrap (16 * (b : Int) + 16) = 16 * (b : Int) + 16 := by rw [IntKind.wrap_i64]; omega
  have hc16 : 16 ≤ c - 16 * b := by omega
  clear hri hlen h hb hq
  generalize hcc : c - 16 * b = c2 at hc16
  have HZ0 := Lib.hid (heap_alloc_new w (.cells #[Value.int .i64 0, Value.string ⟨#[]⟩, Value.string ⟨#[]⟩, Value.int .i64 0] 62))
  have HB0 := Lib.hid ((Below.refl w.heap.size w).alloc (Nat.le_refl _) (.cells #[Value.int .i64 0, Value.string ⟨#[]⟩, Value.string ⟨#[]⟩, Value.int .i64 0] 62))
  go_enter Try.func43, Try.ntmps43
  go_upto_region 4 with (first
    | (go_at_call 79; refine (HW.out _ HB0.out).mono ?_; rintro e w1 ⟨rfl, hD⟩; have HB1 := Lib.hid (HB0.out.next hD.below); have HZ := Lib.hid ((hD.below.block _ (by simp)).trans HZ0.out); have HR1 := Lib.hid (HRI.out.below HB1.out)))
  generalize ad.add (16 * b) = ad2 at *
  obtain ⟨f0, hf0⟩ : ∃ x, f[0]? = some x := ⟨_, List.getElem?_eq_getElem (by rw [HLN.out]; omega)⟩
  obtain ⟨f1, hf1⟩ : ∃ x, f[1]? = some x := ⟨_, List.getElem?_eq_getElem (by rw [HLN.out]; omega)⟩
  obtain ⟨f6, hf6⟩ : ∃ x, f[6]? = some x := ⟨_, List.getElem?_eq_getElem (by rw [HLN.out]; omega)⟩
  have c0 := HR1.out.rd_ hf0
  rw [Addr.add_zero'] at c0
  have c1 := HR1.out.rd_ hf1
  have c6 := HR1.out.rd_ hf6
  have d1 : w1.cell? ⟨ad2.block, ad2.off + 1, none⟩ = some (.int .i64 f1) := c1
  have HF0 := Lib.hid (show f.getD 0 0 = f0 by rw [List.getD_eq_getElem?_getD, hf0]; rfl)
  have HF1 := Lib.hid (show f.getD 1 0 = f1 by rw [List.getD_eq_getElem?_getD, hf1]; rfl)
  have HF6 := Lib.hid (show f.getD 6 0 = f6 by rw [List.getD_eq_getElem?_getD, hf6]; rfl)
  clear hf0 hf1 hf6 HZ0 HB0 HW
  by_cases hneg : f1 < 0
  · have HRES := Lib.hid (show refRec16 f = (PRec.zero, 70) by unfold refRec16; exact if_pos (.inl (by rw [HF1.out]; exact hneg)))
    go_wp2_with (first
      | (refine wpList_store_row rfl 62 _ _ rfl w.heap.size #[Value.int .i64 0, Value.string ⟨#[]⟩, Value.string ⟨#[]⟩, Value.int .i64 0] rfl rfl 62 #[Value.int .i64 0, Value.string ⟨#[]⟩, Value.string ⟨#[]⟩, Value.int .i64 0] HZ.out (by kernel_rfl) rfl (by simp [Value.oneCell']) ?_))
    exact bodyPost_ret (res_rrec rfl rfl (setRow_heap _ _ _ _ _ _ HZ.out)) rfl ⟨by rw [HRES.out]; rfl, below_setRow HB1.out (Nat.le_refl _) _⟩
  by_cases hbig : 693 < f1
  · have HRES := Lib.hid (show refRec16 f = (PRec.zero, 70) by unfold refRec16; exact if_pos (.inr (by rw [HF1.out]; exact hbig)))
    go_wp2_with (first
      | (refine wpList_store_row rfl 62 _ _ rfl w.heap.size #[Value.int .i64 0, Value.string ⟨#[]⟩, Value.string ⟨#[]⟩, Value.int .i64 0] rfl rfl 62 #[Value.int .i64 0, Value.string ⟨#[]⟩, Value.string ⟨#[]⟩, Value.int .i64 0] HZ.out (by kernel_rfl) rfl (by simp [Value.oneCell']) ?_))
    exact bodyPost_ret (res_rrec rfl rfl (setRow_heap _ _ _ _ _ _ HZ.out)) rfl ⟨by rw [HRES.out]; rfl, below_setRow HB1.out (Nat.le_refl _) _⟩
  have HNO := Lib.hid (show ¬ (f.getD 1 0 < 0 ∨ 693 < f.getD 1 0) by rw [HF1.out]; rintro (h | h); exact hneg h; exact hbig h)
  obtain ⟨m, rfl⟩ := Int.eq_ofNat_of_zero_le (show 0 ≤ f1 by omega)
  have hm : m ≤ 693 := by omega
  clear hneg hbig
  go_upto_region 6 with fail
  go_cut [7] (fun s wc => ∃ g, s = .pointer (some ⟨g, 0, none⟩) ∧ Hid (w.heap.size < g) ∧ Hid (wc.heap[g]? = some (.cells #[.int .i64 f0, .string ⟨#[]⟩, .string ⟨#[]⟩, .int .i64 f6] 62 (0, 0))) ∧ Hid (wc.heap[w.heap.size]? = some (.cells #[Value.int .i64 0, Value.string ⟨#[]⟩, Value.string ⟨#[]⟩, Value.int .i64 0] 62 (0, 0))) ∧ Hid (Below w.heap.size w wc))
  case first =>
    have mixed : Try.prog.follows .mixedOrders = true := by kernel_rfl
    have d6 : w1.cell? ⟨ad2.block, ad2.off + 6, none⟩ = some (.int .i64 f6) := c6
    have z0 := World.new_ne w1.drew _ c0
    have z6 := World.new_ne w1.drew _ d6
    clear c1 c6
    go_region_held3 (fun w' : World => w'.cell? ad2 = some (.int .i64 f0) ∧ w'.cell? ⟨ad2.block, ad2.off + 6, none⟩ = some (.int .i64 f6)) (go_keep) (fail)
    all_goals (go_wp2_with fail; go_meet; exact ⟨_, rfl, Lib.hid (Array.getElem?_eq_some_iff.1 HZ.out).1, Lib.hid (heap_alloc_new _ _), Lib.hid ((Below.heap_alloc _ _ _ (Array.getElem?_eq_some_iff.1 HZ.out).1).trans HZ.out), Lib.hid ((HB1.out.alloc HB1.out.size _).trans (Below.refl _ _).drew)⟩)
  case rest =>
  obtain ⟨g, rfl, HG, HN, HZ2, HB2⟩ := hcut
  obtain ⟨W2, rfl⟩ : ∃ W2 : World, W2 = wc := ⟨_, rfl⟩
  clear c0 c1 c6 d1 HZ HB1 HR1
  have HRW := Lib.hid (HRI.out.below HB2.out)
  have c1 := HRW.out.rd_ (k := 1) (x := (m : Int)) (by have := HF1.out; rw [List.getD_eq_getElem?_getD, List.getElem?_eq_getElem (by rw [HLN.out]; omega)] at this; rw [List.getElem?_eq_getElem (by rw [HLN.out]; omega)]; exact congrArg some this)
  have d1 : W2.cell? ⟨ad2.block, ad2.off + 1, none⟩ = some (.int .i64 (m : Int)) := c1
  obtain ⟨k, hk⟩ : ∃ k, k = m / 32 := ⟨_, rfl⟩
  obtain ⟨v, hv⟩ : ∃ v, v = m % 32 := ⟨_, rfl⟩
  obtain ⟨a1, ha1⟩ : ∃ a, a = (k + 6) / 7 := ⟨_, rfl⟩
  obtain ⟨a2, ha2⟩ : ∃ a, a = (v + 6) / 7 := ⟨_, rfl⟩
  have ht1 : Int.tdiv (m : Int) 32 = (k : Int) := by rw [Int.tdiv_eq_ediv_of_nonneg (by omega)]; omega
  have ht2 : Int.tmod (m : Int) 32 = (v : Int) := by rw [Int.tmod_eq_emod_of_nonneg (by omega)]; omega
  have ht3 : (m : Int) / 32 = (k : Int) := by omega
  have ht4 : (m : Int) % 32 = (v : Int) := by omega
  have hs1 : ((k : Int) + 6) / 7 = (a1 : Int) := by omega
  have hs2 : ((v : Int) + 6) / 7 = (a2 : Int) := by omega
  have hs3 : Int.tdiv ((k : Int) + 6) 7 = (a1 : Int) := by rw [Int.tdiv_eq_ediv_of_nonneg (by omega)]; omega
  have hs4 : Int.tdiv ((v : Int) + 6) 7 = (a2 : Int) := by rw [Int.tdiv_eq_ediv_of_nonneg (by omega)]; omega
  have hb1 : (3 : Int) + (a1 : Int) ≤ (c2 : Int) := by omega
  have hb2 : (3 : Int) ≤ 3 + (a1 : Int) := by omega
  have hb3 : (6 : Int) + (a2 : Int) ≤ (c2 : Int) := by omega
  have hb4 : (6 : Int) ≤ 6 + (a2 : Int) := by omega
  have hb5 : ((3 : Int) + (a1 : Int)).toNat = 3 + a1 := by omega
  have hb6 : ((6 : Int) + (a2 : Int)).toNat = 6 + a2 := by omega
  have hb7 : 3 + a1 - 3 = a1 := by omega
  have hb8 : 6 + a2 - 6 = a2 := by omega
  have hcap3 : ¬ c2 = 3 := by omega
  have hcap6 : ¬ c2 = 6 := by omega
  obtain ⟨t1, htx1⟩ : ∃ t, t = refText1 f := ⟨_, rfl⟩
  obtain ⟨key, e1⟩ := t1
  have HT1 := Lib.hid htx1
  have hms : (f.getD 1 0).toNat = m := by rw [HF1.out]; rfl
  have hcall1 : ∀ W, Below w.heap.size w W → Calls Try.prog 80 #[.slice (some (ad2.add 3)) a1 (c2 - 3), .int .i64 (k : Int)] W fun e w' => e = .returned (.tuple #[.string key, .int .i64 e1]) ∧ Below W.heap.size W w' := by
    intro W hW
    have hr : RI W (some (ad2.add 3)) a1 ((f.drop 3).take a1) := RI.take (RI.dropc (HRI.out.below hW) (k := 3) (by omega) hc16 hcap3) (by omega)
    exact text_call _ a1 (c2 - 3) _ k key e1 W hr (by omega) ha1 (by omega) (by rw [htx1]; unfold refText1; rw [hms, ha1, hk])
  have HC1 := Lib.hid hcall1
  obtain ⟨t2, htx2⟩ : ∃ t, t = textOf ((f.drop 6).take a2) v := ⟨_, rfl⟩
  obtain ⟨val, e2⟩ := t2
  have hcall2 : ∀ W, Below w.heap.size w W → Calls Try.prog 80 #[.slice (some (ad2.add 6)) a2 (c2 - 6), .int .i64 (v : Int)] W fun e w' => e = .returned (.tuple #[.string val, .int .i64 e2]) ∧ Below W.heap.size W w' := by
    intro W hW
    have hr : RI W (some (ad2.add 6)) a2 ((f.drop 6).take a2) := RI.take (RI.dropc (HRI.out.below hW) (k := 6) (by omega) hc16 hcap6) (by omega)
    exact text_call _ a2 (c2 - 6) _ v val e2 W hr (by omega) ha2 (by omega) htx2.symm
  have HC2 := Lib.hid hcall2
  have HT2 := Lib.hid (show f0 = 1 → refText2 f = (val, e2) by intro h; unfold refText2; rw [HF0.out, if_pos h, hms, htx2, ha2, hv])
  have HT3 := Lib.hid (show ¬ f0 = 1 → refText2 f = (⟨#[]⟩, 0) by intro h; unfold refText2; rw [HF0.out, if_neg h])
  have hwk : IntKind.i64.wrap (k : Int) = (k : Int) := by rw [IntKind.wrap_i64]; omega
  clear htx1 htx2 hcall1 hcall2 hms ha1 ha2 hk hv
  go_upto_region 10 with (first
    | (go_at_call 80; refine (HC1.out _ HB2.out).mono ?_; rintro e w5 ⟨rfl, hB5⟩))
  have hn5 := (hB5.block _ (Array.getElem?_eq_some_iff.1 HN.out).1).trans HN.out
  have hz5 := (hB5.block _ (Array.getElem?_eq_some_iff.1 HZ2.out).1).trans HZ2.out
  have q0 : w5.cell? ⟨g, 0, none⟩ = some (.int .i64 f0) := by rw [cell_of_row _ _ _ _ _ _ hn5]; rfl
  have q1 : w5.cell? ⟨g, 1, none⟩ = some (.string ⟨#[]⟩) := by rw [cell_of_row _ _ _ _ _ _ hn5]; rfl
  have q1f : w5.frozen? ⟨g, 1, none⟩ = false := frozen_of_row _ _ _ _ _ hn5
  have HN6 := Lib.hid (show (w5.setCell ⟨g, 1, none⟩ (.string key)).heap[g]? = some (.cells #[.int .i64 f0, .string key, .string ⟨#[]⟩, .int .i64 f6] 62 (0, 0)) from heap_setCell_same _ _ _ _ _ _ hn5)
  have HZ6 := Lib.hid ((Below.heap_setCell w5 ⟨g, 1, none⟩ (.string key) w.heap.size (by have := HG.out; simp; omega)).trans hz5)
  have HB6 := Lib.hid ((HB2.out.next hB5).setCell (p := ⟨g, 1, none⟩) (by have := HG.out; simp; omega) (.string key))
  clear hn5 hz5
  have q0' : (w5.setCell ⟨g, 1, none⟩ (.string key)).cell? ⟨g, 0, none⟩ = some (.int .i64 f0) := by rw [cell_of_row _ _ _ _ _ _ HN6.out]; rfl
  go_upto_if 70 with fail
  generalize w5.setCell ⟨g, 1, none⟩ (.string key) = w6 at *
  clear q0 q1 q1f
  go_cut [12, 13, 14] (fun s12 s13 s14 wc => s12 = .int .i64 (refText2 f).2 ∧ Hid (wc.heap[g]? = some (.cells #[.int .i64 (refRecOf f).kind, .string (refRecOf f).key, .string (refRecOf f).val, .int .i64 (refRecOf f).child] 62 (0, 0))) ∧ Hid (wc.heap[w.heap.size]? = some (.cells #[Value.int .i64 0, Value.string ⟨#[]⟩, Value.string ⟨#[]⟩, Value.int .i64 0] 62 (0, 0))) ∧ Hid (Below w.heap.size w wc))
  case first =>
    by_cases hk1 : f0 = 1
    · have hx : refRecOf f = ⟨f0, key, val, 0⟩ := by unfold refRecOf; rw [HF0.out, if_pos hk1, HT2.out hk1, ← HT1.out]
      have HX := Lib.hid hx
      have HE := Lib.hid (HT2.out hk1)
      clear hx
      subst hk1
      go_upto_region 14 with (first
        | (go_at_call 80; refine (HC2.out _ HB6.out).mono ?_; rintro e w7 ⟨rfl, hB7⟩))
      have hn7 := (hB7.block _ (Array.getElem?_eq_some_iff.1 HN6.out).1).trans HN6.out
      have hz7 := (hB7.block _ (Array.getElem?_eq_some_iff.1 HZ6.out).1).trans HZ6.out
      have p3 : w7.cell? ⟨g, 3, none⟩ = some (.int .i64 f6) := by rw [cell_of_row _ _ _ _ _ _ hn7]; rfl
      have p3f : w7.frozen? ⟨g, 3, none⟩ = false := frozen_of_row _ _ _ _ _ hn7
      have hn8 : (w7.setCell ⟨g, 3, none⟩ (.int .i64 0)).heap[g]? = some (.cells #[.int .i64 1, .string key, .string ⟨#[]⟩, .int .i64 0] 62 (0, 0)) := heap_setCell_same _ _ _ _ _ _ hn7
      have p2 : (w7.setCell ⟨g, 3, none⟩ (.int .i64 0)).cell? ⟨g, 2, none⟩ = some (.string ⟨#[]⟩) := by rw [cell_of_row _ _ _ _ _ _ hn8]; rfl
      have p2f : (w7.setCell ⟨g, 3, none⟩ (.int .i64 0)).frozen? ⟨g, 2, none⟩ = false := frozen_of_row _ _ _ _ _ hn8
      have HN9 := Lib.hid (show ((w7.setCell ⟨g, 3, none⟩ (.int .i64 0)).setCell ⟨g, 2, none⟩ (.string val)).heap[g]? = some (.cells #[.int .i64 1, .string key, .string val, .int .i64 0] 62 (0, 0)) from heap_setCell_same _ _ _ _ _ _ hn8)
      have HZ9 := Lib.hid ((Below.heap_setCell (w7.setCell ⟨g, 3, none⟩ (.int .i64 0)) ⟨g, 2, none⟩ (.string val) w.heap.size (by have := HG.out; simp; omega)).trans ((Below.heap_setCell w7 ⟨g, 3, none⟩ (.int .i64 0) w.heap.size (by have := HG.out; simp; omega)).trans hz7))
      have HB9 := Lib.hid (((HB6.out.next hB7).setCell (p := ⟨g, 3, none⟩) (by have := HG.out; simp; omega) (.int .i64 0)).setCell (p := ⟨g, 2, none⟩) (by have := HG.out; simp; omega) (.string val))
      clear hn7 hz7 hn8
      go_wp2_with fail
      go_meet
      exact ⟨by rw [HE.out], by rw [HX.out]; exact HN9, HZ9, HB9⟩
    · have hx : refRecOf f = ⟨f0, key, ⟨#[]⟩, f6⟩ := by unfold refRecOf; rw [HF0.out, if_neg hk1, HT3.out hk1, ← HT1.out, HF6.out]
      have HX := Lib.hid hx
      have HE := Lib.hid (HT3.out hk1)
      clear hx
      go_wp2_with fail
      go_meet
      exact ⟨by rw [HE.out], by rw [HX.out]; exact HN6, HZ6, HB6⟩
  case rest =>
  obtain ⟨rfl, HN9, HZ9, HB9⟩ := hcut
  obtain ⟨W9, rfl⟩ : ∃ W9 : World, W9 = wc := ⟨_, rfl⟩
  have HT1' := Lib.hid (show (refText1 f).2 = e1 by rw [← HT1.out])
  obtain ⟨x, hx⟩ : ∃ x, x = refRecOf f := ⟨_, rfl⟩
  rw [← hx] at HN9
  have HWC0 := Lib.hid (fun r1 r2 (hr : (if recOk ⟨x.kind, x.key, x.val, x.child⟩ = true then (recWords x.kind x.key x.val x.child, (0 : Int)) else ([], 70)) = (r1, r2)) => RR.lamplighterref07_Words.calls 100 x.kind x.key x.val x.child r1 r2 W9 (by rw [refrw_f 100 _ _ _ _ (by omega), hr]))
  have hg0 : g < W9.heap.size := (Array.getElem?_eq_some_iff.1 HN9.out).1
  have hg1 : w.heap.size < W9.heap.size := (Array.getElem?_eq_some_iff.1 HZ9.out).1
  generalize he2 : (refText2 f).2 = y2 at *
  have HE2 := Lib.hid he2
  have HX := Lib.hid hx
  clear he2 hx HB2 HN HZ2 HB6 HN6 HZ6 HC1 HC2 HT2 HT3 HT1
  by_cases hok : recOk ⟨x.kind, x.key, x.val, x.child⟩ = true
  · have HWC := Lib.hid (HWC0.out _ _ (if_pos hok))
    have hwl : (recWords x.kind x.key x.val x.child).length = 16 := rfl
    obtain ⟨q, hq⟩ : ∃ q : Bool, q = (recWords x.kind x.key x.val x.child == f) := ⟨_, rfl⟩
    have HQ := Lib.hid hq
    obtain ⟨NW, hNW⟩ : ∃ NW, NW = recWords x.kind x.key x.val x.child := ⟨_, rfl⟩
    rw [← hNW] at HWC HQ hwl
    have HWL := Lib.hid hwl
    have HOK := Lib.hid hok
    have HQ2 := Lib.hid (show q = true ↔ recWords x.kind x.key x.val x.child = f by rw [hq]; exact beq_iff_eq)
    clear hq hwl hNW hok
    by_cases h1 : e1 = 0
    · by_cases h2 : y2 = 0
      · subst h1 h2
        cases q with
        | false =>
          have HRES := Lib.hid (show refRec16 f = (PRec.zero, 70) by
            unfold refRec16
            rw [if_neg HNO.out, ← HX.out]
            exact if_neg (fun h => by have := HQ2.out.2 h.2.2.2; cases this))
          go_wp2_with (first
            | (refine wpList_load_row rfl 62 _ rfl g rfl 62 #[Value.int .i64 x.kind, Value.string x.key, Value.string x.val, Value.int .i64 x.child] (0, 0) _ HN9.out Try.underlying62 rfl (by kernel_rfl) ?_)
            | (go_at_call 81; refine HWC.out.mono ?_; rintro e w5 ⟨v5, rfl, hR5, hB5⟩; obtain ⟨A5, c5, rfl, hc5, hC5⟩ := Kd.R_reads hR5)
            | (go_at_call 78; refine (nums_call A5 c5 NW (some ad2) 16 c2 _ false _ hC5 hc5 (HRI.out.below (HB9.out.next hB5)) hc16 (by rw [HWL.out]; omega) (by omega) HQ.out).mono ?_; rintro e w6 ⟨rfl, hD6⟩; have hb6 := hB5.next hD6.below; have hz6 := (hb6.block _ hg1).trans HZ9.out; have hn6 := (hb6.block _ hg0).trans HN9.out)
            | (refine wpList_store_row rfl 62 _ _ rfl w.heap.size #[Value.int .i64 0, Value.string ⟨#[]⟩, Value.string ⟨#[]⟩, Value.int .i64 0] rfl rfl 62 #[Value.int .i64 0, Value.string ⟨#[]⟩, Value.string ⟨#[]⟩, Value.int .i64 0] hz6 (by kernel_rfl) rfl (by simp [Value.oneCell']) ?_))
          exact bodyPost_ret (res_rrec rfl rfl (setRow_heap _ _ _ _ _ _ hz6)) rfl ⟨by rw [HRES.out]; rfl, below_setRow (HB9.out.next hb6) (Nat.le_refl _) _⟩
        | true =>
          have HRES := Lib.hid (show refRec16 f = (x, 0) by
            unfold refRec16
            rw [if_neg HNO.out, ← HX.out]
            exact if_pos ⟨HT1'.out, HE2.out, HOK.out, HQ2.out.1 rfl⟩)
          go_wp2_with (first
            | (refine wpList_load_row rfl 62 _ rfl g rfl 62 #[Value.int .i64 x.kind, Value.string x.key, Value.string x.val, Value.int .i64 x.child] (0, 0) _ HN9.out Try.underlying62 rfl (by kernel_rfl) ?_)
            | (refine wpList_load_row rfl 62 _ rfl g rfl 62 #[Value.int .i64 x.kind, Value.string x.key, Value.string x.val, Value.int .i64 x.child] (0, 0) _ hn6 Try.underlying62 rfl (by kernel_rfl) ?_)
            | (go_at_call 81; refine HWC.out.mono ?_; rintro e w5 ⟨v5, rfl, hR5, hB5⟩; obtain ⟨A5, c5, rfl, hc5, hC5⟩ := Kd.R_reads hR5)
            | (go_at_call 78; refine (nums_call A5 c5 NW (some ad2) 16 c2 _ true _ hC5 hc5 (HRI.out.below (HB9.out.next hB5)) hc16 (by rw [HWL.out]; omega) (by omega) HQ.out).mono ?_; rintro e w6 ⟨rfl, hD6⟩; have hb6 := hB5.next hD6.below; have hz6 := (hb6.block _ hg1).trans HZ9.out; have hn6 := (hb6.block _ hg0).trans HN9.out)
            | (refine wpList_store_row rfl 62 _ _ rfl w.heap.size #[Value.int .i64 x.kind, Value.string x.key, Value.string x.val, Value.int .i64 x.child] rfl rfl 62 #[Value.int .i64 0, Value.string ⟨#[]⟩, Value.string ⟨#[]⟩, Value.int .i64 0] hz6 (by kernel_rfl) rfl (by simp [Value.oneCell']) ?_))
          exact bodyPost_ret (res_rrec rfl rfl (setRow_heap _ _ _ _ _ _ hz6)) rfl ⟨by rw [HRES.out]; rfl, below_setRow (HB9.out.next hb6) (Nat.le_refl _) _⟩
      · have HRES := Lib.hid (show refRec16 f = (PRec.zero, 70) by
          unfold refRec16
          rw [if_neg HNO.out]
          exact if_neg (fun h => h2 (HE2.out.symm.trans h.2.1)))
        subst h1
        go_wp2_with (first
          | (refine wpList_load_row rfl 62 _ rfl g rfl 62 #[Value.int .i64 x.kind, Value.string x.key, Value.string x.val, Value.int .i64 x.child] (0, 0) _ HN9.out Try.underlying62 rfl (by kernel_rfl) ?_)
          | (go_at_call 81; refine HWC.out.mono ?_; rintro e w5 ⟨v5, rfl, hR5, hB5⟩; obtain ⟨A5, c5, rfl, hc5, hC5⟩ := Kd.R_reads hR5; have hz6 := (hB5.block _ hg1).trans HZ9.out)
          | (refine wpList_store_row rfl 62 _ _ rfl w.heap.size #[Value.int .i64 0, Value.string ⟨#[]⟩, Value.string ⟨#[]⟩, Value.int .i64 0] rfl rfl 62 #[Value.int .i64 0, Value.string ⟨#[]⟩, Value.string ⟨#[]⟩, Value.int .i64 0] hz6 (by kernel_rfl) rfl (by simp [Value.oneCell']) ?_))
        exact bodyPost_ret (res_rrec rfl rfl (setRow_heap _ _ _ _ _ _ hz6)) rfl ⟨by rw [HRES.out]; rfl, below_setRow (HB9.out.next hB5) (Nat.le_refl _) _⟩
    · have HRES := Lib.hid (show refRec16 f = (PRec.zero, 70) by
        unfold refRec16
        rw [if_neg HNO.out]
        exact if_neg (fun h => h1 (HT1'.out.symm.trans h.1)))
      go_wp2_with (first
        | (refine wpList_load_row rfl 62 _ rfl g rfl 62 #[Value.int .i64 x.kind, Value.string x.key, Value.string x.val, Value.int .i64 x.child] (0, 0) _ HN9.out Try.underlying62 rfl (by kernel_rfl) ?_)
        | (go_at_call 81; refine HWC.out.mono ?_; rintro e w5 ⟨v5, rfl, hR5, hB5⟩; obtain ⟨A5, c5, rfl, hc5, hC5⟩ := Kd.R_reads hR5; have hz6 := (hB5.block _ hg1).trans HZ9.out)
        | (refine wpList_store_row rfl 62 _ _ rfl w.heap.size #[Value.int .i64 0, Value.string ⟨#[]⟩, Value.string ⟨#[]⟩, Value.int .i64 0] rfl rfl 62 #[Value.int .i64 0, Value.string ⟨#[]⟩, Value.string ⟨#[]⟩, Value.int .i64 0] hz6 (by kernel_rfl) rfl (by simp [Value.oneCell']) ?_))
      exact bodyPost_ret (res_rrec rfl rfl (setRow_heap _ _ _ _ _ _ hz6)) rfl ⟨by rw [HRES.out]; rfl, below_setRow (HB9.out.next hB5) (Nat.le_refl _) _⟩
  · have HWC := Lib.hid (HWC0.out _ _ (if_neg hok))
    have HRES := Lib.hid (show refRec16 f = (PRec.zero, 70) by
      unfold refRec16
      rw [if_neg HNO.out, ← HX.out]
      exact if_neg (fun h => hok h.2.2.1))
    clear hok
    by_cases h1 : e1 = 0
    · by_cases h2 : y2 = 0
      · subst h1 h2
        go_wp2_with (first
          | (refine wpList_load_row rfl 62 _ rfl g rfl 62 #[Value.int .i64 x.kind, Value.string x.key, Value.string x.val, Value.int .i64 x.child] (0, 0) _ HN9.out Try.underlying62 rfl (by kernel_rfl) ?_)
          | (go_at_call 81; refine HWC.out.mono ?_; rintro e w5 ⟨v5, rfl, hR5, hB5⟩; obtain ⟨A5, c5, rfl, hc5, hC5⟩ := Kd.R_reads hR5; have hz6 := (hB5.block _ hg1).trans HZ9.out)
          | (refine wpList_store_row rfl 62 _ _ rfl w.heap.size #[Value.int .i64 0, Value.string ⟨#[]⟩, Value.string ⟨#[]⟩, Value.int .i64 0] rfl rfl 62 #[Value.int .i64 0, Value.string ⟨#[]⟩, Value.string ⟨#[]⟩, Value.int .i64 0] hz6 (by kernel_rfl) rfl (by simp [Value.oneCell']) ?_))
        exact bodyPost_ret (res_rrec rfl rfl (setRow_heap _ _ _ _ _ _ hz6)) rfl ⟨by rw [HRES.out]; rfl, below_setRow (HB9.out.next hB5) (Nat.le_refl _) _⟩
      · subst h1
        go_wp2_with (first
          | (refine wpList_load_row rfl 62 _ rfl g rfl 62 #[Value.int .i64 x.kind, Value.string x.key, Value.string x.val, Value.int .i64 x.child] (0, 0) _ HN9.out Try.underlying62 rfl (by kernel_rfl) ?_)
          | (go_at_call 81; refine HWC.out.mono ?_; rintro e w5 ⟨v5, rfl, hR5, hB5⟩; obtain ⟨A5, c5, rfl, hc5, hC5⟩ := Kd.R_reads hR5; have hz6 := (hB5.block _ hg1).trans HZ9.out)
          | (refine wpList_store_row rfl 62 _ _ rfl w.heap.size #[Value.int .i64 0, Value.string ⟨#[]⟩, Value.string ⟨#[]⟩, Value.int .i64 0] rfl rfl 62 #[Value.int .i64 0, Value.string ⟨#[]⟩, Value.string ⟨#[]⟩, Value.int .i64 0] hz6 (by kernel_rfl) rfl (by simp [Value.oneCell']) ?_))
        exact bodyPost_ret (res_rrec rfl rfl (setRow_heap _ _ _ _ _ _ hz6)) rfl ⟨by rw [HRES.out]; rfl, below_setRow (HB9.out.next hB5) (Nat.le_refl _) _⟩
    · skip
      go_wp2_with (first
        | (refine wpList_load_row rfl 62 _ rfl g rfl 62 #[Value.int .i64 x.kind, Value.string x.key, Value.string x.val, Value.int .i64 x.child] (0, 0) _ HN9.out Try.underlying62 rfl (by kernel_rfl) ?_)
        | (go_at_call 81; refine HWC.out.mono ?_; rintro e w5 ⟨v5, rfl, hR5, hB5⟩; obtain ⟨A5, c5, rfl, hc5, hC5⟩ := Kd.R_reads hR5; have hz6 := (hB5.block _ hg1).trans HZ9.out)
        | (refine wpList_store_row rfl 62 _ _ rfl w.heap.size #[Value.int .i64 0, Value.string ⟨#[]⟩, Value.string ⟨#[]⟩, Value.int .i64 0] rfl rfl 62 #[Value.int .i64 0, Value.string ⟨#[]⟩, Value.string ⟨#[]⟩, Value.int .i64 0] hz6 (by kernel_rfl) rfl (by simp [Value.oneCell']) ?_))
      exact bodyPost_ret (res_rrec rfl rfl (setRow_heap _ _ _ _ _ _ hz6)) rfl ⟨by rw [HRES.out]; rfl, below_setRow (HB9.out.next hB5) (Nat.le_refl _) _⟩
theorem rrec_any (A : Option Addr) (c : Nat) (xs : List Int) (b : Int) (w : World) (h : RI w A xs.length xs) (hn : xs.length ≤ 60000) (hc : xs.length ≤ c) :
    Calls Try.prog 43 #[.slice A xs.length c, .int .i64 b] w (RecPost (recRead xs b) w) := by
  unfold recRead
  by_cases h0 : b < 0
  · rw [if_pos h0]
    exact rrec_bad A c xs b w h hn hc (.inl h0)
  · rw [if_neg h0]
    by_cases h1 : (xs.length : Int) / 16 ≤ b
    · rw [if_pos h1]
      exact rrec_bad A c xs b w h hn hc (.inr h1)
    · rw [if_neg h1]
      obtain ⟨b, rfl⟩ := Int.eq_ofNat_of_zero_le (show 0 ≤ b by omega)
      rw [Int.toNat_natCast, ← refRec_is (blockOf xs b) (by unfold blockOf; rw [List.length_take, List.length_drop]; omega)]
      exact rrec_good A c xs b w h hn hc (by omega)
end Go.Proofs.Ytliaemoomhfcdaa
