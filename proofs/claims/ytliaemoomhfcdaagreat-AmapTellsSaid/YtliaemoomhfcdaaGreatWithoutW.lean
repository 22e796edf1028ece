/- The walks of slices.Clone and slices.DeleteFunc at pairs, and of a list of pairs without a key. -/
import Derived.Test.YtliaemoomhfcdaaGreatRowP
namespace Go.Proofs.YtliaemoomhfcdaaGreat
open Go.RowKit Go.Proofs.YtliaemoomhfcdaaGreatW.PrintWords
set_option maxHeartbeats 2000000
set_option maxRecDepth 100000
set_option linter.unusedVariables false
set_option linter.unusedSimpArgs false
def PredN (n0 : Nat) (g : Nat) (lb : Array Value) (p : KV → Bool) (w : World) : Prop :=
  ∀ (W : World) (x : KV), Below n0 w W → Calls Tryz.prog g (#[.agg #[.string x.1, .string x.2]] ++ lb) W fun e w' => e = .returned (.bool (p x)) ∧ Below W.heap.size W w'
theorem PredN.to {n0 g : Nat} {lb : Array Value} {p : KV → Bool} {w W : World} (h : PredN n0 g lb p w) (hn : n0 ≤ w.heap.size) (hb : Below n0 w W) : PredB g lb p W :=
  fun W2 x h2 => h W2 x (hb.trans (h2.mono (Nat.le_trans hn hb.size)))
theorem zeroP (w : World) : (zeroValue 45).run Tryz.prog w = .ok zP w := by
  have := Tryz.zeroValue45
  first | exact this w | exact this
theorem deleteFunc_any (n0 g0 cap : Nat) (l : List KV) (p : KV → Bool) (g : Nat) (lb : Array Value) (eg : ∀ args w, (callFunc g args).run Tryz.prog w = .ok (.enter g args) w) (w : World) (hn0 : n0 ≤ w.heap.size) (hn : l.length ≤ 1000000000)
    (hrow : w.ownsRow n0 45 2 (.slice (some ⟨g0, 0, none⟩) l.length cap) l.length (flatP l)) (hp : PredN n0 g lb p w) :
    Calls Tryz.prog 34 #[.slice (some ⟨g0, 0, none⟩) l.length cap, .func (.func g) #[] lb] w fun e w' => e = .returned (.slice (some ⟨g0, 0, none⟩) (l.filter (fun x => !p x)).length cap) ∧
      w'.ownsRow n0 45 2 (.slice (some ⟨g0, 0, none⟩) (l.filter (fun x => !p x)).length cap) (l.filter (fun x => !p x)).length (flatP (l.filter (fun x => !p x))) ∧ Below n0 w w' := by
  have HI := Lib.hid (indexFunc_any (some ⟨g0, 0, none⟩) cap l p g lb eg w (C_own2 hrow) hn (hp.to hn0 (Below.refl _ _)))
  have HR := Lib.hid hrow
  have HP := Lib.hid hp
  rw [idxP_eq, Nat.zero_add] at HI
  by_cases hany : l.any p = true
  rotate_left
  · rw [if_neg hany] at HI
    have hf : l.filter (fun x => !p x) = l := by
      rw [List.filter_eq_self]
      intro x hx
      cases hpx : p x with
      | false => rfl
      | true => exact absurd (List.any_eq_true.2 ⟨x, hx, hpx⟩) hany
    rw [hf]
    clear hp hrow hany hf
    go_enter Tryz.func34, Tryz.ntmps34
    go_wp2_with (go_at_call 57; refine HI.out.mono ?_; rintro e w1 ⟨rfl, hb⟩)
    go_ret
    exact ⟨rfl, own_below_ HR.out hb, hb.mono hn0⟩
  rw [if_pos hany] at HI
  have hk0 : l.findIdx p < l.length := by
    obtain ⟨x, hx, hpx⟩ := List.any_eq_true.1 hany
    exact List.findIdx_lt_length_of_exists ⟨x, hx, hpx⟩
  have hstart : l.take (l.findIdx p) = (l.take (l.findIdx p + 1)).filter (fun x => !p x) := by
    rw [List.take_add_one, List.filter_append]
    have h1 : (l.take (l.findIdx p)).filter (fun x => !p x) = l.take (l.findIdx p) := by
      rw [List.filter_eq_self]
      intro x hx
      obtain ⟨j, hj, hxj⟩ := List.mem_iff_getElem.1 hx
      rw [List.length_take] at hj
      rw [List.getElem_take] at hxj
      have := List.not_of_lt_findIdx (p := p) (xs := l) (show j < l.findIdx p by omega)
      rw [← hxj]
      simpa using this
    have h2 : l[l.findIdx p]? = some l[l.findIdx p] := List.getElem?_eq_getElem hk0
    rw [h1, h2]
    have := List.findIdx_getElem (p := p) (xs := l) (w := hk0)
    simp [this]
  generalize l.findIdx p = k0 at HI hk0 hstart
  have HS := Lib.hid hstart
  have hz := zeroP
  have HZ := Lib.hid hz
  clear hp hrow hany hstart hz
  have hne : ((k0 : Int) == -1) = false := by simp
  go_enter Tryz.func34, Tryz.ntmps34
  go_wp2_with (go_at_call 57; refine HI.out.mono ?_; rintro e w1 ⟨rfl, hb⟩)
  have HB1 := Lib.hid (hb.mono hn0)
  have HR1 := Lib.hid (own_below_ HR.out hb)
  clear hb HR HI
  go_loopw [5, 6] (fun s5 s6 wr => ∃ (i j : Nat) (L : List KV), s5 = .int .i64 i ∧ s6 = .int .i64 j ∧ i < j ∧ j ≤ l.length ∧ L.length = l.length ∧ Hid (Below n0 w wr) ∧ Hid (wr.ownsRow n0 45 2 (.slice (some ⟨g0, 0, none⟩) L.length cap) L.length (flatP L)) ∧
    Hid (L.drop j = l.drop j) ∧ Hid (L.take i = (l.take j).filter (fun x => !p x))) (fun _ s6 _ => l.length - (intOf s6).toNat)
  case atStart => exact ⟨k0, k0 + 1, l, rfl, by go_num, by omega, by omega, rfl, HB1, HR1, Lib.hid rfl, HS⟩
  case round =>
    obtain ⟨i, j, L, rfl, rfl, hij, hj, hL, HB, HRW, HD, HT⟩ := hrel
    by_cases hlt : j < l.length
    · have hLj : j < L.length := by omega
      obtain ⟨x, hx, c0, c1, _, _⟩ := row2_cells HRW.out hLj
      have hlx : l[j]? = some x := by
        have h1 : (L.drop j)[0]? = (l.drop j)[0]? := by rw [HD.out]
        simpa [hx] using h1.symm
      have hB2 : Below n0 w (wr.alloc (.cells #[.string x.1, .string x.2] 45)) := HB.out.alloc (Nat.le_trans hn0 HB.out.size) _
      have hcall := HP.out (wr.alloc (.cells #[.string x.1, .string x.2] 45)) x hB2
      have HB2 := Lib.hid hB2
      have hnew := heap_alloc_new wr (.cells #[.string x.1, .string x.2] 45)
      have HN := Lib.hid hnew
      have HRA := Lib.hid (HRW.out.alloc (.cells #[.string x.1, .string x.2] 45))
      have hdrop : L.drop (j + 1) = l.drop (j + 1) := by
        have h1 := congrArg (List.drop 1) HD.out
        simpa [List.drop_drop, Nat.add_comm] using h1
      have HD2 := Lib.hid hdrop
      have HLX := Lib.hid hlx
      have hltL : (j : Int) < (L.length : Int) := by omega
      have hwj : Go.IntKind.wrap .i64 ((j : Int) + 1) = ((j + 1 : Nat) : Int) := by rw [IntKind.wrap_i64]; omega
      have hwi : Go.IntKind.wrap .i64 ((i : Int) + 1) = ((i + 1 : Nat) : Int) := by rw [IntKind.wrap_i64]; omega
      clear hB2 hnew hdrop hlx hx
      generalize hq : p x = q at hcall
      have HQ := Lib.hid hq
      clear hq
      cases q with
      | true =>
        go_wp2_with (first
          | (go_at_fn g; refine hcall.mono ?_; rintro e w2 ⟨rfl, hb2⟩; have HB3 := Lib.hid (HB2.out.trans (hb2.mono (Nat.le_trans hn0 HB2.out.size))); have HR3 := Lib.hid (own_below_ HRA.out hb2); clear hb2))
        refine ⟨⟨i, j + 1, L, rfl, by go_num, by omega, by omega, hL, HB3, HR3, HD2, Lib.hid ?_⟩, by simp [intOf]; omega⟩
        rw [HT.out, List.take_add_one, HLX.out, List.filter_append]
        simp [HQ.out]
      | false =>
        go_wp2_with (first
          | (go_at_fn g; refine hcall.mono ?_; rintro e w2 ⟨rfl, hb2⟩; have HB3 := Lib.hid (HB2.out.trans (hb2.mono (Nat.le_trans hn0 HB2.out.size))); have HR3 := Lib.hid (own_below_ HRA.out hb2); have HN3 := Lib.hid ((hb2.block _ (by simp)).trans HN.out); have e0 : w2.cell? ⟨wr.heap.size, 0, none⟩ = some (.string x.1) := (cell_of_row _ _ _ _ _ _ HN3.out).trans rfl; have e1 : w2.cell? ⟨wr.heap.size, 1, none⟩ = some (.string x.2) := (cell_of_row _ _ _ _ _ _ HN3.out).trans rfl; obtain ⟨y, hy, d0, d1, f0, f1⟩ := row2_cells HR3.out (show i < L.length by omega); clear hb2 hy))
        have hi : i < L.length := by omega
        obtain ⟨hr4, hb4⟩ := row2_set x HR3.out hi
        refine ⟨⟨i + 1, j + 1, L.set i x, by go_num, by go_num, by omega, by omega, by simpa using hL, Lib.hid (HB3.out.trans hb4), Lib.hid (by rw [List.length_set]; exact hr4), Lib.hid ?_, Lib.hid ?_⟩, by simp [intOf]; omega⟩
        · rw [List.drop_set_of_lt (by omega)]; exact HD2.out
        · have h1 : (l.take (j + 1)).filter (fun x => !p x) = L.take i ++ [x] := by
            rw [HT.out, List.take_add_one, HLX.out, List.filter_append]
            simp [HQ.out]
          rw [h1, List.take_add_one, List.take_set_of_le (Nat.le_refl _), List.getElem?_set_self hi]
          simp
    · obtain rfl : j = l.length := by omega
      have hi : i < L.length := by omega
      obtain ⟨cur, hg, hb, h1, h2, h3, h4⟩ := row2_get HRW.out
      have hcl : ∀ ty, (Builtin.clear_ #[23] ty #[.slice (some ⟨g0, i * 2, none⟩) (l.length - i) (cap - i)]).run Tryz.prog wr = .ok (.tuple #[]) (wr.setRow g0 (cur.toList.take (i * 2) ++ zs (l.length - i) ++ cur.toList.drop (i * 2 + (l.length - i) * 2)).toArray) :=
        fun ty => run_clear_row2 wr 23 45 ty Tryz.underlying23 HZ.out g0 (i * 2) _ _ cur 45 (by omega) hg (by omega)
      obtain ⟨X, hX⟩ : ∃ X : List Value, X = cur.toList.take (i * 2) ++ zs (l.length - i) ++ cur.toList.drop (i * 2 + (l.length - i) * 2) := ⟨_, rfl⟩
      rw [← hX] at hcl
      have HX := Lib.hid hX
      clear hX
      have HG := Lib.hid hg
      have H4 := Lib.hid h4
      have hil : i ≤ cap := by omega
      have hLc : L.length ≤ cap := h1
      have hlen : (l.filter (fun x => !p x)) = L.take i := by
        have := HT.out
        rw [List.take_length] at this
        exact this.symm
      have HLEN := Lib.hid hlen
      clear hlen hg h4
      go_wp2
      go_ret
      rw [HLEN.out]
      have hi2 : (L.take i).length = i := by rw [List.length_take]; omega
      have hset := setRow_heap wr g0 cur X.toArray 45 (0, 0) HG.out
      refine ⟨by rw [hi2]; rfl, ?_, HB.out.trans (below_setRow (Below.refl _ _) hb _)⟩
      rw [hi2]
      refine row2_mk hset hb hil h2 ?_ ?_
      · rw [List.size_toArray, HX.out]; simp [zs_len]; omega
      · rw [HX.out, ← flatP_take, ← H4.out]
        have hc : (cur.toList.take (i * 2)).length = i * 2 := by rw [List.length_take, Array.length_toList]; omega
        simp only [List.append_assoc]
        rw [List.take_append_of_le_length (by omega), List.take_take, List.take_take]
        congr 1
        omega
theorem flatP_get : ∀ (l : List KV) (j : Nat), (flatP l)[j * 2]? = (l[j]?).map (fun x => Value.string x.1) ∧ (flatP l)[j * 2 + 1]? = (l[j]?).map (fun x => Value.string x.2)
  | [], j => by simp [flatP]
  | x :: t, 0 => by simp [flatP]
  | x :: t, j + 1 => by
    rw [show (j + 1) * 2 = j * 2 + 1 + 1 from by omega]
    simp only [flatP, List.getElem?_cons_succ]
    exact flatP_get t j
theorem C_cells2 {w : World} {ad : Addr} {n : Nat} {l : List KV} (h : Kd.C kp w (some ad) n l) : ∀ q u, (flatP l)[q]? = some u → w.cell? (ad.add q) = some u := by
  intro q u hq
  have hql : q < (flatP l).length := (List.getElem?_eq_some_iff.1 hq).1
  rw [flatP_len] at hql
  have hj : q / 2 < l.length := by omega
  obtain ⟨ad', e, hc⟩ := h.2.2 (by have := h.1; omega)
  injection e with e
  subst e
  obtain ⟨c, _, hK, hcell⟩ := hc (q / 2) _ (List.getElem?_eq_getElem hj)
  obtain ⟨_, _, rfl, rfl, rfl⟩ := hK
  obtain ⟨h0, h1⟩ := flatP_get l (q / 2)
  rw [List.getElem?_eq_getElem hj] at h0 h1
  rcases Nat.mod_two_eq_zero_or_one q with h2 | h2
  · have e : q = q / 2 * 2 + 0 := by omega
    have := hcell 0 (.string l[q / 2].1) rfl
    rw [e] at hq ⊢
    rw [Nat.add_zero] at hq
    rw [h0] at hq
    injection hq with hq
    rw [← hq]; exact this
  · have e : q = q / 2 * 2 + 1 := by omega
    have := hcell 1 (.string l[q / 2].2) rfl
    rw [e] at hq ⊢
    rw [h1] at hq
    injection hq with hq
    rw [← hq]; exact this
theorem clonePairs_any (A : Option Addr) (c : Nat) (l : List KV) (w : World) (h : Kd.C kp w A l.length l) (hn : l.length ≤ 1000000000) :
    Calls Tryz.prog 35 #[.slice A l.length c] w fun e w' => ∃ v, e = .returned v ∧ w'.ownsRow w.heap.size 45 2 v l.length (flatP l) ∧ Below w.heap.size w w' := by
  have q42 : ∀ (w : World) (a : Option Addr) (n c n' c' : Nat), (binOp .eql 23 (.slice a n c) (.slice none n' c')).run Tryz.prog w = .ok (.bool a.isNone) w := fun w a n c n' c' => Lib.run_eql_slice_nil w _ _ a n c n' c' Tryz.underlying23
  obtain ⟨i0, hi, hz0, hz1, hz2⟩ := info_parts infoP
  cases A with
  | none =>
    have h0 : l = [] := by
      cases l with
      | nil => rfl
      | cons x t =>
        obtain ⟨ad, e, _⟩ := h.2.2 (by simp)
        cases e
    subst h0
    go_enter Tryz.func35, Tryz.ntmps35
    go_wp2
    go_ret
    exact ⟨.slice none 0 0, rfl, World.ownsRow_nil _ _ _ _, Below.refl _ _⟩
  | some ad =>
    have HC := Lib.hid h
    clear h
    go_enter Tryz.func35, Tryz.ntmps35
    go_wp2_with (at_builtin; refine wpList_append_own _ rfl _ _ 23 rfl w.heap.size 45 i0 (.agg #[.string ⟨#[]⟩, .string ⟨#[]⟩]) 2 32 Tryz.underlying23 hi hz0 hz1 hz2 rfl (by decide) _ _ _ rfl (World.ownsRow_made w #[] 0 (Nat.le_refl _) (Nat.zero_le _) (by simp)) ad l.length c (flatP l) rfl ?qc1 ?qc2 ?qc3 ?qc4 ?qc5 ?qc6 ?_)
    case qc1 => exact flatP_len l
    case qc2 => exact C_cells2 (Kd.C_alloc HC.out _)
    case qc3 => exact flatP_one l
    case qc4 => rw [Nat.zero_add]; unfold maxLen; omega
    case qc5 => omega
    case qc6 => simp
    intro v' w1 hown hgrow hnil
    go_wp2
    go_ret
    refine ⟨v', rfl, by simpa using hown, ?_⟩
    exact ((Below.refl _ w).alloc (Nat.le_refl _) _).grown hgrow (by simp) (by intro k hk; simp [Value.ownBlock] at hk; omega)
theorem deleteFunc_own (n0 : Nat) (l : List KV) (p : KV → Bool) (g : Nat) (lb : Array Value) (eg : ∀ args w, (callFunc g args).run Tryz.prog w = .ok (.enter g args) w) (v : Value) (w : World) (hn0 : n0 ≤ w.heap.size) (hn : l.length ≤ 1000000000)
    (hrow : w.ownsRow n0 45 2 v l.length (flatP l)) (hp : PredN n0 g lb p w) :
    Calls Tryz.prog 34 #[v, .func (.func g) #[] lb] w fun e w' => ∃ v', e = .returned v' ∧ w'.ownsRow n0 45 2 v' (l.filter (fun x => !p x)).length (flatP (l.filter (fun x => !p x))) ∧ Below n0 w w' := by
  rcases id hrow.2 with ⟨rfl, h0⟩ | ⟨g0, cap, cur, rfl, _⟩
  · have hl : l = [] := List.eq_nil_of_length_eq_zero h0
    subst hl
    have HI := Lib.hid (indexFunc_any none 0 [] p g lb eg w ⟨rfl, by simp, fun h => by simp at h⟩ (by simp) (hp.to hn0 (Below.refl _ _)))
    simp only [idxP] at HI
    clear hrow hp
    go_enter Tryz.func34, Tryz.ntmps34
    go_wp2_with (go_at_call 57; refine HI.out.mono ?_; rintro e w1 ⟨rfl, hb⟩)
    go_ret
    exact ⟨.slice none 0 0, rfl, World.ownsRow_nil _ _ _ _, hb.mono hn0⟩
  · exact (deleteFunc_any n0 g0 cap l p g lb eg w hn0 hn hrow hp).mono fun e w' ⟨h1, h2, h3⟩ => ⟨_, h1, h2, h3⟩
theorem without1_pred (B n0 : Nat) (key : ByteArray) (w : World) (hB : B < n0) (hn0 : n0 ≤ w.heap.size) (hc : w.cell? ⟨B, 0, none⟩ = some (.string key)) : PredN n0 36 #[.pointer (some ⟨B, 0, none⟩)] (keyIs key) w := by
  intro W x hW
  have hk : W.cell? ⟨B, 0, none⟩ = some (.string key) := (hW.cell (p := ⟨B, 0, none⟩) hB).trans hc
  have hk2 : (W.alloc (.cells #[.string x.1, .string x.2] 45)).cell? ⟨B, 0, none⟩ = some (.string key) := (((Below.refl _ W).alloc (Nat.le_refl _) (.cells #[.string x.1, .string x.2] 45)).cell (p := ⟨B, 0, none⟩) (World.block_lt_of_cell? W _ hk)).trans hk
  clear hk hc
  show Calls Tryz.prog 36 #[.agg #[.string x.1, .string x.2], .pointer (some ⟨B, 0, none⟩)] W _
  go_enter Tryz.func36, Tryz.ntmps36
  go_wp2
  go_ret
  exact ⟨rfl, (Below.refl _ W).alloc (Nat.le_refl _) _⟩
def withoutOf (l : List KV) (key : ByteArray) : List KV := l.filter (fun x => !keyIs key x)
theorem without_any (A : Option Addr) (c : Nat) (l : List KV) (key : ByteArray) (w : World) (h : Kd.C kp w A l.length l) (hn : l.length ≤ 1000000000) :
    Calls Tryz.prog 15 #[.slice A l.length c, .string key] w fun e w' => ∃ v, e = .returned v ∧ w'.ownsRow w.heap.size 45 2 v (withoutOf l key).length (flatP (withoutOf l key)) ∧ Below w.heap.size w w' := by
  have hB : Below w.heap.size w (w.alloc (.cells #[.string key] 9)) := (Below.refl _ w).alloc (Nat.le_refl _) _
  have hc : (w.alloc (.cells #[.string key] 9)).cell? ⟨w.heap.size, 0, none⟩ = some (.string key) := (cell_of_row _ _ _ _ _ _ (heap_alloc_new w _)).trans rfl
  have hsz : (w.alloc (.cells #[.string key] 9)).heap.size = w.heap.size + 1 := by simp
  have HCL := Lib.hid (clonePairs_any A c l _ (Kd.C_below h hB) hn)
  have HD := Lib.hid (fun v W (hW : Below (w.heap.size + 1) (w.alloc (.cells #[.string key] 9)) W) hr => deleteFunc_own (w.heap.size + 1) l (keyIs key) 36 #[.pointer (some ⟨w.heap.size, 0, none⟩)] (enters_of Tryz.func36 (by kernel_rfl) rfl) v W (by rw [← hsz]; exact hW.size) hn hr
    (fun W2 x h2 => without1_pred w.heap.size (w.heap.size + 1) key _ (by omega) (by simp) hc W2 x (hW.trans h2)))
  have HB := Lib.hid hB
  rw [hsz] at HCL
  clear h hc hB hsz
  go_enter Tryz.func15, Tryz.ntmps15
  go_wp2_with (first
    | (go_at_call 35; refine HCL.out.mono ?_; rintro e w1 ⟨v, rfl, hr, hb⟩)
    | (go_at_call 34; refine (HD.out v w1 hb hr).mono ?_; rintro e w2 ⟨v2, rfl, hr2, hb2⟩))
  go_ret
  exact ⟨v2, rfl, own_weaken hr2 (by omega), HB.out.trans ((hb.trans hb2).mono (by omega))⟩
end Go.Proofs.YtliaemoomhfcdaaGreat
