/- The walk of the reference's Acts. -/
import Derived.Test.YtdblecmelmeibaaActs
namespace Go.Proofs.Ytdblecmelmeibaa
open Go.RowKit Go.Maps Go.ChangeMaps
set_option maxHeartbeats 8000000
set_option maxRecDepth 100000
set_option linter.unusedSimpArgs false

theorem refActs_own (A : Option Addr) (n c : Nat) (evs : List PE) (key : ByteArray) (w : World) (h : RE w A n evs) (hn : n ≤ 1000000000) (hc : n ≤ c) :
    Calls Try.prog 15 #[.slice A n c, .string key] w (ActsOwn (actsTo evs key n) w) := by
  have HR := Lib.hid h
  clear h
  have HL : Hid (n ≤ 1000000000) := Lib.hid hn
  obtain ⟨i0, hi, hz0_, hz1_, hz2_⟩ := info_parts info37
  go_enter Try.func15, Try.ntmps15
  go_wp2
  go_loopw [5, 6] (fun v i wr => ∃ k : Nat, k ≤ n ∧ i = .int .i64 k ∧ Hid (wr.ownsRow w.heap.size 37 6 v (actsTo evs key k).length (aCs (actsTo evs key k))) ∧ Below w.heap.size w wr) (fun _ i _ => n - (intOf i).toNat)
  case atStart => exact ⟨0, by omega, rfl, Lib.hid ⟨by simp [aCs_len], .inl ⟨rfl, rfl⟩⟩, Below.refl _ _⟩
  case round =>
    obtain ⟨k, hk, rfl, HO, hB⟩ := hrel
    by_cases hlt : k < n
    · obtain ⟨ad, e, rfl, hb, hx, hat⟩ := (HR.out.below hB).at_ hlt
      have HX := Lib.hid hx
      have HST : Hid (actsTo evs key (k + 1) = actsTo evs key k ++ (actOf evs key k e).toList) := Lib.hid (acts_step hx)
      obtain ⟨h0, h1, h2, h3, h4, h5, h6, h7, h8, h9, h10⟩ := hat
      clear hx
      obtain ⟨wo, rfl⟩ : ∃ wo : World, wo = wr := ⟨_, rfl⟩
      by_cases hq : asks key e = true
      · have HASK := Lib.hid hq
        unfold asks at hq
        simp only [Bool.and_eq_true, decide_eq_true_eq] at hq
        obtain ⟨q1, q2, q3, q4⟩ := hq
        have q3' : decide (e.okind < 1) = false := by simp; omega
        have q4' : decide (3 < e.okind) = false := by simp; omega
        have q1' : (e.kind != 1) = false := by simpa using q1
        have q2' : (e.okey.toList != key.toList) = false := by simpa using q2
        have q2p : e.okey.toList = key.toList := by simpa using q2
        clear q1 q2
        go_wp2_with fail
        obtain ⟨W1, hW1⟩ : ∃ W1 : World, wo.alloc (.cells #[.int .i64 e.client, .int .i64 e.kind, .int .i64 e.okind, .string e.okey, .string e.oval, .string e.ohi, .int .i64 e.olim, .string e.val, .bool e.found, .int .i64 e.err, .slice e.oA e.on e.oc] 48) = W1 := ⟨_, rfl⟩
        have hE1 : W1.heap[wo.heap.size]? = some (.cells #[.int .i64 e.client, .int .i64 e.kind, .int .i64 e.okind, .string e.okey, .string e.oval, .string e.ohi, .int .i64 e.olim, .string e.val, .bool e.found, .int .i64 e.err, .slice e.oA e.on e.oc] 48 (0, 0)) := by rw [← hW1]; exact heap_alloc_new _ _
        have hB1 : Below w.heap.size w W1 := by rw [← hW1]; exact hB.alloc hB.size _
        have hO1 : Hid (W1.ownsRow w.heap.size 37 6 u5 (actsTo evs key k).length (aCs (actsTo evs key k))) := by rw [← hW1]; exact Lib.hid (HO.out.alloc _)
        rw [hW1]
        clear hW1 h0 h1 h2 h3 h4 h5 h6 h7 h8 h9 h10
        have HE1 := Lib.hid hE1
        have HB1 := Lib.hid hB1
        clear hE1 hB1 hB
        go_loopw [8] (fun s wi => ∃ q : Nat, k + 1 ≤ q ∧ q ≤ n ∧ s = .int .i64 q ∧ Hid (∀ j x, k + 1 ≤ j → j < q → evs[j]? = some x → backs e.client x = false) ∧ ∃ m, wi = W1.drewN m) (fun s _ => n - (intOf s).toNat)
        case atStart => exact ⟨k + 1, by omega, by omega, by go_num, Lib.hid (fun j x hj hj2 => by omega), 0, rfl⟩
        case round =>
          obtain ⟨q, hq1, hq2, rfl, HF, m, rfl⟩ := hrel
          by_cases hqn : q < n
          · obtain ⟨_, b, heq, hbb, hxb, hatb⟩ := (HR.out.below HB1.out).at_ hqn
            obtain rfl : ad = _ := by injection heq
            have HXB := Lib.hid hxb
            have e0 : W1.cell? ⟨wo.heap.size, 0, none⟩ = some (.int .i64 e.client) := by rw [cell_of_row _ _ _ _ _ _ HE1.out]; rfl
            obtain ⟨b0, b1, b2, b3, b4, b5, b6, b7, b8, b9, b10⟩ := hatb
            clear hxb heq
            have hqd : decide ((q : Int) < (n : Int)) = true := by simp; omega
            cases k2 : (b.kind == 2)
            · have k2' : (b.kind != 2) = true := by simpa using k2
              go_wp2_with fail
              go_quiet (fail)
              go_wp2_with fail
              refine ⟨⟨q + 1, by omega, by omega, by go_num, Lib.hid (fun j y hj hj2 hy => ?_), _, rfl⟩, by simp [intOf]; omega⟩
              by_cases hjq : j = q
              · subst hjq
                rw [HXB.out] at hy
                injection hy with hy
                rw [← hy]
                simp [backs, k2]
              · exact HF.out j y hj (by omega) hy
            · have k2' : (b.kind != 2) = false := by simpa using k2
              cases cl : (b.client == e.client)
              · have cl' : (b.client != e.client) = true := by simpa using cl
                go_wp2_with fail
                go_quiet (fail)
                go_wp2_with fail
                refine ⟨⟨q + 1, by omega, by omega, by go_num, Lib.hid (fun j y hj hj2 hy => ?_), _, rfl⟩, by simp [intOf]; omega⟩
                by_cases hjq : j = q
                · subst hjq
                  rw [HXB.out] at hy
                  injection hy with hy
                  rw [← hy]
                  simp [backs, cl]
                · exact HF.out j y hj (by omega) hy
              · have cl' : (b.client != e.client) = false := by simpa using cl
                have hfi : (evs.drop (k + 1)).findIdx (backs e.client) = q - (k + 1) := by
                  have hlt' : q - (k + 1) < (evs.drop (k + 1)).length := by rw [List.length_drop, HR.out.1]; omega
                  rw [List.findIdx_eq hlt']
                  have hg : (evs.drop (k + 1))[q - (k + 1)] = b := by
                    have := HXB.out
                    rw [List.getElem_drop]
                    have e2 : k + 1 + (q - (k + 1)) = q := by omega
                    simp only [e2]
                    rw [List.getElem?_eq_getElem (by rw [HR.out.1]; exact hqn)] at this
                    injection this
                  refine ⟨by rw [hg]; simp [backs, k2, cl], fun j hj => ?_⟩
                  rw [List.getElem_drop]
                  exact HF.out (k + 1 + j) _ (by omega) (by omega) (List.getElem?_eq_getElem _)
                have HAF : Hid (actOf evs key k e = if b.err = 0 then some ⟨k, q, e.okind, if e.okind = 1 then e.oval else b.val, b.found, true⟩ else none) := Lib.hid (by
                  unfold actOf
                  rw [if_pos HASK.out, hfi, List.getElem?_drop, show k + 1 + (q - (k + 1)) = q from by omega, HXB.out])
                clear hfi
                go_wp2_with fail
                go_quiet (fail)
                have hE2 : ((W1.drewN m).drewN nq).heap[wo.heap.size]? = some (.cells #[.int .i64 e.client, .int .i64 e.kind, .int .i64 e.okind, .string e.okey, .string e.oval, .string e.ohi, .int .i64 e.olim, .string e.val, .bool e.found, .int .i64 e.err, .slice e.oA e.on e.oc] 48 (0, 0)) := HE1.out
                have HO2 : Hid (((W1.drewN m).drewN nq).ownsRow w.heap.size 37 6 u5 (actsTo evs key k).length (aCs (actsTo evs key k))) := Lib.hid hO1.out
                have HB2 : Hid (Below w.heap.size w ((W1.drewN m).drewN nq)) := Lib.hid (HB1.out.trans ⟨rfl, rfl, rfl, Nat.le_refl _, fun _ _ => rfl⟩)
                have hat2 : EAt ((W1.drewN m).drewN nq) (ad.add (q * 11)) b := ⟨b0, b1, b2, b3, b4, b5, b6, b7, b8, b9, b10⟩
                generalize ((W1.drewN m).drewN nq) = W2 at hE2 HO2 HB2 hat2 ⊢
                have hz : w.heap.size ≤ W2.heap.size := HB2.out.size
                have e2 : W2.cell? ⟨wo.heap.size, 2, none⟩ = some (.int .i64 e.okind) := by rw [cell_of_row _ _ _ _ _ _ hE2]; rfl
                have e4 : W2.cell? ⟨wo.heap.size, 4, none⟩ = some (.string e.oval) := by rw [cell_of_row _ _ _ _ _ _ hE2]; rfl
                have hze : wo.heap.size < W2.heap.size := heap_lt hE2
                have HLL := Lib.hid (acts_len evs key k)
                have hbk : (ad.add (q * 11)).block < W2.heap.size := by
                  have h := hat2.1
                  rcases Nat.lt_or_ge (ad.add (q * 11)).block W2.heap.size with h1 | h1
                  · exact h1
                  · simp [World.cell?, Array.getElem?_eq_none h1] at h
                obtain ⟨d0, d1, d2, d3, d4, d5, d6, d7, d8, d9, d10⟩ := hat2
                clear hE2 b0 b1 b2 b3 b4 b5 b6 b7 b8 b9 b10 e0
                cases hbe : (b.err == 0)
                · have hbe' : (b.err != 0) = true := by simpa using hbe
                  go_wp2_with fail
                  refine ⟨⟨k + 1, by omega, by go_num, ?_, HB2.out.alloc hz _⟩, by simp [intOf]; omega⟩
                  have e1 : (b.err = 0) = False := by simpa using hbe
                  rw [HST.out, HAF.out]
                  simp only [e1, if_false, Option.toList_none, List.append_nil]
                  exact Lib.hid (HO2.out.alloc _)
                · have hbe' : (b.err != 0) = false := by simpa using hbe
                  have HAO : Hid (actOf evs key k e = some ⟨k, q, e.okind, if e.okind = 1 then e.oval else b.val, b.found, true⟩) := Lib.hid (by
                    have e1 : (b.err = 0) = True := by simpa using hbe
                    rw [HAF.out]
                    simp only [e1, if_true])
                  cases hk1 : (e.okind == 1)
                  · go_wp2_with (first
                      | (at_builtin
                         refine wpList_append_any _ rfl _ _ _ rfl w.heap.size 37 i0 _ 6 48 Try.underlying22 hi hz0_ hz1_ hz2_ rfl (by omega) _ _ _ rfl ((HO2.out.alloc _).alloc _) _ (some ⟨W2.heap.size + 1, 0, none⟩) 1 1 (aCs [⟨k, q, e.okind, b.val, b.found, true⟩]) rfl (lit37 _ _ _ (by simp)) (aCs_one _) (by have := HLL.out; simp only [maxLen]; omega) (by have := HLL.out; omega) (by simp; omega) ?_
                         intro v5 w5 hown5 hg5 hat5))
                    refine ⟨⟨k + 1, by omega, by go_num, ?_, ((HB2.out.alloc hz _).alloc (by simp; omega) _).grown hg5 (by simp; omega) (fun g hg => own_ge HO2.out hg)⟩, by simp [intOf]; omega⟩
                    have e1 : (e.okind = 1) = False := by simpa using hk1
                    rw [HST.out, HAO.out, Option.toList_some, List.length_append, aCs_append, List.length_singleton]
                    simp only [e1, if_false]
                    exact Lib.hid hown5
                  · go_wp2_with (first
                      | (at_builtin
                         refine wpList_append_any _ rfl _ _ _ rfl w.heap.size 37 i0 _ 6 48 Try.underlying22 hi hz0_ hz1_ hz2_ rfl (by omega) _ _ _ rfl ((HO2.out.alloc _).alloc _) _ (some ⟨W2.heap.size + 1, 0, none⟩) 1 1 (aCs [⟨k, q, e.okind, e.oval, b.found, true⟩]) rfl (lit37 _ _ _ (by simp)) (aCs_one _) (by have := HLL.out; simp only [maxLen]; omega) (by have := HLL.out; omega) (by simp; omega) ?_
                         intro v5 w5 hown5 hg5 hat5))
                    refine ⟨⟨k + 1, by omega, by go_num, ?_, ((HB2.out.alloc hz _).alloc (by simp; omega) _).grown hg5 (by simp; omega) (fun g hg => own_ge HO2.out hg)⟩, by simp [intOf]; omega⟩
                    have e1 : (e.okind = 1) = True := by simpa using hk1
                    rw [HST.out, HAO.out, Option.toList_some, List.length_append, aCs_append, List.length_singleton]
                    simp only [e1, if_true]
                    exact Lib.hid hown5
          · have hqd : decide ((q : Int) < (n : Int)) = false := by simp; omega
            obtain rfl : q = n := by omega
            have hj : ¬ (evs.drop (k + 1)).findIdx (backs e.client) < (evs.drop (k + 1)).length := by
              intro hlt'
              have h2 := List.findIdx_getElem (w := hlt')
              rw [List.getElem_drop] at h2
              rw [List.length_drop] at hlt'
              have := HF.out _ _ (by omega) (by have := HR.out.1; omega) (List.getElem?_eq_getElem (show k + 1 + (evs.drop (k + 1)).findIdx (backs e.client) < evs.length by omega))
              rw [this] at h2
              cases h2
            have HAO : Hid (actOf evs key k e = some ⟨k, q, e.okind, if e.okind = 1 then e.oval else ⟨#[]⟩, false, false⟩) := Lib.hid (by
              unfold actOf
              rw [if_pos HASK.out, List.getElem?_eq_none (by omega), HR.out.1])
            clear hj
            go_wp2_with fail
            go_quiet (fail)
            have hE2 : ((W1.drewN m).drewN nq).heap[wo.heap.size]? = some (.cells #[.int .i64 e.client, .int .i64 e.kind, .int .i64 e.okind, .string e.okey, .string e.oval, .string e.ohi, .int .i64 e.olim, .string e.val, .bool e.found, .int .i64 e.err, .slice e.oA e.on e.oc] 48 (0, 0)) := HE1.out
            have HO2 : Hid (((W1.drewN m).drewN nq).ownsRow w.heap.size 37 6 u5 (actsTo evs key k).length (aCs (actsTo evs key k))) := Lib.hid hO1.out
            have HB2 : Hid (Below w.heap.size w ((W1.drewN m).drewN nq)) := Lib.hid (HB1.out.trans ⟨rfl, rfl, rfl, Nat.le_refl _, fun _ _ => rfl⟩)
            generalize ((W1.drewN m).drewN nq) = W2 at hE2 HO2 HB2 ⊢
            have hz : w.heap.size ≤ W2.heap.size := HB2.out.size
            have e2 : W2.cell? ⟨wo.heap.size, 2, none⟩ = some (.int .i64 e.okind) := by rw [cell_of_row _ _ _ _ _ _ hE2]; rfl
            have e4 : W2.cell? ⟨wo.heap.size, 4, none⟩ = some (.string e.oval) := by rw [cell_of_row _ _ _ _ _ _ hE2]; rfl
            have hze : wo.heap.size < W2.heap.size := heap_lt hE2
            have HLL := Lib.hid (acts_len evs key k)
            clear hE2
            cases hk1 : (e.okind == 1)
            · go_wp2_with (first
                | (at_builtin
                   refine wpList_append_any _ rfl _ _ _ rfl w.heap.size 37 i0 _ 6 48 Try.underlying22 hi hz0_ hz1_ hz2_ rfl (by omega) _ _ _ rfl ((HO2.out.alloc _).alloc _) _ (some ⟨W2.heap.size + 1, 0, none⟩) 1 1 (aCs [⟨k, q, e.okind, ⟨#[]⟩, false, false⟩]) rfl (lit37 _ _ _ (by simp)) (aCs_one _) (by have := HLL.out; simp only [maxLen]; omega) (by have := HLL.out; omega) (by simp; omega) ?_
                   intro v5 w5 hown5 hg5 hat5))
              refine ⟨⟨k + 1, by omega, by go_num, ?_, ((HB2.out.alloc hz _).alloc (by simp; omega) _).grown hg5 (by simp; omega) (fun g hg => own_ge HO2.out hg)⟩, by simp [intOf]; omega⟩
              have e1 : (e.okind = 1) = False := by simpa using hk1
              rw [HST.out, HAO.out, Option.toList_some, List.length_append, aCs_append, List.length_singleton]
              simp only [e1, if_false]
              exact Lib.hid hown5
            · go_wp2_with (first
                | (at_builtin
                   refine wpList_append_any _ rfl _ _ _ rfl w.heap.size 37 i0 _ 6 48 Try.underlying22 hi hz0_ hz1_ hz2_ rfl (by omega) _ _ _ rfl ((HO2.out.alloc _).alloc _) _ (some ⟨W2.heap.size + 1, 0, none⟩) 1 1 (aCs [⟨k, q, e.okind, e.oval, false, false⟩]) rfl (lit37 _ _ _ (by simp)) (aCs_one _) (by have := HLL.out; simp only [maxLen]; omega) (by have := HLL.out; omega) (by simp; omega) ?_
                   intro v5 w5 hown5 hg5 hat5))
              refine ⟨⟨k + 1, by omega, by go_num, ?_, ((HB2.out.alloc hz _).alloc (by simp; omega) _).grown hg5 (by simp; omega) (fun g hg => own_ge HO2.out hg)⟩, by simp [intOf]; omega⟩
              have e1 : (e.okind = 1) = True := by simpa using hk1
              rw [HST.out, HAO.out, Option.toList_some, List.length_append, aCs_append, List.length_singleton]
              simp only [e1, if_true]
              exact Lib.hid hown5
      · have HAO : Hid (actOf evs key k e = none) := Lib.hid (by unfold actOf; rw [if_neg hq])
        cases q1 : (e.kind == 1)
        · have q1' : (e.kind != 1) = true := by simpa using q1
          clear hq
          go_wp2_with fail
          refine ⟨⟨k + 1, by omega, by go_num, ?_, hB.alloc hB.size _⟩, by simp [intOf]; omega⟩
          rw [HST.out, HAO.out, Option.toList_none, List.append_nil]
          exact Lib.hid (HO.out.alloc _)
        · have q1' : (e.kind != 1) = false := by simpa using q1
          by_cases q2 : e.okey.toList = key.toList
          · have q2' : (e.okey.toList != key.toList) = false := by simpa using q2
            by_cases q3 : e.okind < 1
            · have q3' : decide (e.okind < 1) = true := by simpa using q3
              clear hq q3 q1
              go_wp2_with fail
              refine ⟨⟨k + 1, by omega, by go_num, ?_, hB.alloc hB.size _⟩, by simp [intOf]; omega⟩
              rw [HST.out, HAO.out, Option.toList_none, List.append_nil]
              exact Lib.hid (HO.out.alloc _)
            · have q3' : decide (e.okind < 1) = false := by simpa using q3
              have q4' : decide (3 < e.okind) = true := by
                simp only [decide_eq_true_eq]
                refine Decidable.byContradiction fun h => hq ?_
                unfold asks
                simp [q1, q2]
                omega
              clear hq q3 q1
              go_wp2_with fail
              refine ⟨⟨k + 1, by omega, by go_num, ?_, hB.alloc hB.size _⟩, by simp [intOf]; omega⟩
              rw [HST.out, HAO.out, Option.toList_none, List.append_nil]
              exact Lib.hid (HO.out.alloc _)
          · have q2' : (e.okey.toList != key.toList) = true := by simpa using q2
            clear hq q1
            go_wp2_with fail
            refine ⟨⟨k + 1, by omega, by go_num, ?_, hB.alloc hB.size _⟩, by simp [intOf]; omega⟩
            rw [HST.out, HAO.out, Option.toList_none, List.append_nil]
            exact Lib.hid (HO.out.alloc _)
    · obtain rfl : k = n := by omega
      go_wp2
      go_ret
      exact ⟨_, rfl, HO.out, hB⟩
end Go.Proofs.Ytdblecmelmeibaa
