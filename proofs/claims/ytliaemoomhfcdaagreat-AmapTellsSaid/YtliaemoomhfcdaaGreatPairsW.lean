/- The walks of a leaf's own pairs, and of all pairs of an arena. -/
import Derived.Test.YtliaemoomhfcdaaGreatPairW
namespace Go.Proofs.YtliaemoomhfcdaaGreat
open Go.RowKit Go.Proofs.YtliaemoomhfcdaaGreatW.PrintWords
set_option maxHeartbeats 1000000
set_option maxRecDepth 100000
set_option linter.unusedVariables false
/-- A leaf's own pairs. -/
def ownRead (ws : List Int) (b : Int) : List KV := ownOf (nodeRead ws b).1.next (lowRead ws (nodeRead ws b).1.next).1 (recRead ws) (plainOf (nodeRead ws b).1.slots)
theorem ownOf_len (ne : Int) (high : ByteArray) (rc : Int → PRec × Int) : ∀ l, (ownOf ne high rc l).length ≤ l.length
  | [] => Nat.le_refl _
  | s :: t => by
    simp only [ownOf]
    split
    · simp
    · have := ownOf_len ne high rc t
      simp; omega
theorem ownRead_len (ws : List Int) (b : Int) : (ownRead ws b).length ≤ 13 :=
  Nat.le_trans (ownOf_len _ _ _ _) (Nat.le_trans (plainOf_len _) (nodeRead_slots_ ws b))
theorem own_stops (n n0 Bw Bb : Nat) (hn : 3 ≤ n) (A : Option Addr) (c : Nat) (ws : List Int) (b : Int) (w0 w : World) (hn0 : w0.heap.size = n0) (hw : Below n0 w0 w) (h : Kd.C (Kd.int .i64) w0 A ws.length ws) (hc : ws.length ≤ c) (hl : ws.length ≤ 1000000000)
    (hBw : w.heap[Bw]? = some (.cells #[.slice A ws.length c] 22 (0, 0))) (hBb : w.heap[Bb]? = some (.cells #[.int .i64 b] 3 (0, 0))) :
    SeqStopsK Fence.wide n Tryz.prog 46 #[.pointer (some ⟨Bw, 0, none⟩), .pointer (some ⟨Bb, 0, none⟩)] encP (KeepP n0) (fun ys => ys = ownRead ws b) (fun pre => pre <+: ownRead ws b) 13 w := by
  intro l J Jx W hW hJ hJx hY h0
  have hC : ∀ W2, Below n0 w0 W2 → Kd.C (Kd.int .i64) W2 A ws.length ws := fun W2 h2 => Kd.C_below h (by rw [hn0]; exact h2)
  have hsz : n0 ≤ w.heap.size := by rw [← hn0]; exact hw.size
  have hW2 : Below n0 w0 W := hw.trans (hW.mono hsz)
  have hlt := (Array.getElem?_eq_some_iff.1 hBw).1
  have hlt2 := (Array.getElem?_eq_some_iff.1 hBb).1
  exact own1_in n l n0 Bw Bb hn A c ws b (nodeRead ws b).1.level (nodeRead ws b).1.turn (nodeRead ws b).1.next (nodeRead ws b).1.low (nodeRead ws b).2 (lowRead ws (nodeRead ws b).1.next).2 (nodeRead ws b).1.slots (plainOf (nodeRead ws b).1.slots) (lowRead ws (nodeRead ws b).1.next).1 (recRead ws)
    (Lib.hid fun W3 h3 => nodeRead_any A c ws b W3 h3 hc hl) (Lib.hid fun W3 h3 => arenaLow_any A c ws _ W3 h3 hc hl)
    (Lib.hid fun A1 c1 W3 h3 => plain_any A1 c1 _ W3 h3 (Nat.le_trans (nodeRead_slots_ ws b) (by omega))) (Lib.hid fun s W3 h3 => recRead_any A c ws s W3 h3 hc hl)
    J Jx W (Nat.le_trans hsz hW.size) hJ (Nat.le_trans (plainOf_len _) (Nat.le_trans (nodeRead_slots_ ws b) (by omega)))
    (fun pre x W1 hj hlen => hY pre x W1 hj (Nat.lt_of_lt_of_le hlen (ownRead_len ws b)))
    ((hW.block Bw hlt).trans hBw) ((hW.block Bb hlt2).trans hBb) (Lib.hid fun W3 h3 => hC W3 (hW2.trans h3.1)) h0
theorem own_any (A : Option Addr) (n c : Nat) (b : Int) (w : World) :
    Calls Tryz.prog 24 #[.slice A n c, .int .i64 b] w fun e w' => e = .returned (.func (.func 46) #[] #[.pointer (some ⟨w.heap.size, 0, none⟩), .pointer (some ⟨w.heap.size + 1, 0, none⟩)]) ∧ w' = (w.alloc (.cells #[.slice A n c] 22)).alloc (.cells #[.int .i64 b] 3) := by
  go_enter Tryz.func24, Tryz.ntmps24
  go_wp2
  go_ret
  exact ⟨rfl, rfl⟩
/-- AppendSeq of a leaf's own pairs. -/
theorem appendOwn (A A2 : Option Addr) (c c2 : Nat) (ws : List Int) (b : Int) (ps : List KV) (w0 w : World) (hw : Below w0.heap.size w0 w) (h : Kd.C (Kd.int .i64) w0 A ws.length ws) (hc : ws.length ≤ c) (hl : ws.length ≤ 1000000000) (hps : ps.length ≤ 1000000000)
    (hrow : w.ownsRow w0.heap.size 45 2 (.slice A2 ps.length c2) ps.length (flatP ps)) :
    Calls Tryz.prog 29 #[.slice A2 ps.length c2, .func (.func 46) #[] #[.pointer (some ⟨w.heap.size, 0, none⟩), .pointer (some ⟨w.heap.size + 1, 0, none⟩)]] ((w.alloc (.cells #[.slice A ws.length c] 22)).alloc (.cells #[.int .i64 b] 3)) fun e w' =>
      ∃ v, e = .returned v ∧ w'.ownsRow w0.heap.size 45 2 v (ps ++ ownRead ws b).length (flatP (ps ++ ownRead ws b)) ∧ Below w0.heap.size w0 w' := by
  refine (callsIn_wide (n := 6)).1 ?_
  have hB2 : Below w.heap.size w ((w.alloc (.cells #[.slice A ws.length c] 22)).alloc (.cells #[.int .i64 b] 3)) := ((Below.refl _ w).alloc (Nat.le_refl _) _).alloc (by simp) _
  have hrow2 := (hrow.alloc (.cells #[.slice A ws.length c] 22)).alloc (.cells #[.int .i64 b] 3)
  have hb1 : ((w.alloc (.cells #[.slice A ws.length c] 22)).alloc (.cells #[.int .i64 b] 3)).heap[w.heap.size]? = some (.cells #[.slice A ws.length c] 22 (0, 0)) := (Below.heap_alloc _ _ _ (by simp)).trans (World.alloc_heap_new w _)
  have hb2 : ((w.alloc (.cells #[.slice A ws.length c] 22)).alloc (.cells #[.int .i64 b] 3)).heap[w.heap.size + 1]? = some (.cells #[.int .i64 b] 3 (0, 0)) := by
    have := World.alloc_heap_new (w.alloc (.cells #[.slice A ws.length c] 22)) (.cells #[.int .i64 b] 3)
    rwa [World.size_alloc] at this
  have hw2 : Below w0.heap.size w0 ((w.alloc (.cells #[.slice A ws.length c] 22)).alloc (.cells #[.int .i64 b] 3)) := hw.trans (hB2.mono hw.size)
  generalize (w.alloc (.cells #[.slice A ws.length c] 22)).alloc (.cells #[.int .i64 b] 3) = W at *
  refine (appendSeq_in 6 (by omega) 46 _ (enters_of Tryz.func46 (by kernel_rfl) rfl) w0.heap.size A2 c2 ps 13 (by unfold maxLen; omega) (by omega) W hw2.size hrow2 (fun ys => ys = ownRead ws b) (fun pre => pre <+: ownRead ws b)
    (fun W2 hW2 => own_stops 5 w0.heap.size w.heap.size (w.heap.size + 1) (by omega) A c ws b w0 W2 rfl (hw2.trans (hW2.mono hw2.size)) h hc hl ((hW2.block _ (Array.getElem?_eq_some_iff.1 hb1).1).trans hb1) ((hW2.block _ (Array.getElem?_eq_some_iff.1 hb2).1).trans hb2))).mono ?_
  rintro e w' ⟨v, xs, rfl, rfl, hr, hb⟩
  exact ⟨v, rfl, by rw [List.length_append]; exact hr, hw2.trans hb⟩
theorem collectOwn (A : Option Addr) (c : Nat) (ws : List Int) (b : Int) (w0 w : World) (hw : Below w0.heap.size w0 w) (h : Kd.C (Kd.int .i64) w0 A ws.length ws) (hc : ws.length ≤ c) (hl : ws.length ≤ 1000000000) :
    Calls Tryz.prog 23 #[.func (.func 46) #[] #[.pointer (some ⟨w.heap.size, 0, none⟩), .pointer (some ⟨w.heap.size + 1, 0, none⟩)]] ((w.alloc (.cells #[.slice A ws.length c] 22)).alloc (.cells #[.int .i64 b] 3)) fun e w' =>
      ∃ v, e = .returned v ∧ w'.ownsRow w0.heap.size 45 2 v (ownRead ws b).length (flatP (ownRead ws b)) ∧ Below w0.heap.size w0 w' := by
  have HA := Lib.hid (appendOwn A none c 0 ws b [] w0 w hw h hc hl (by simp) (World.ownsRow_nil _ _ _ _))
  clear h hw
  go_enter Tryz.func23, Tryz.ntmps23
  go_wp2_with (go_at_call 29; refine HA.out.mono ?_; rintro e w' ⟨v, rfl, hr, hb⟩)
  go_ret
  exact ⟨v, rfl, hr, hb⟩
def PairPost (r : List KV × Int) (w : World) (e : Ending) (w' : World) : Prop := ∃ v, e = .returned (.tuple #[v, .int .i64 r.2]) ∧ w'.ownsRow w.heap.size 45 2 v r.1.length (flatP r.1) ∧ Below w.heap.size w w'
def ownAns (ws : List Int) (b : Int) : List KV × Int := if checkRead ws = 0 then (if (leavesAns ws).1.contains b = true then (ownRead ws b, 0) else ([], 1)) else ([], checkRead ws)
def pairsRead (ws : List Int) : List KV := (leavesAns ws).1.flatMap (ownRead ws)
def pairsAns (ws : List Int) : List KV × Int := if checkRead ws = 0 then (pairsRead ws, 0) else ([], checkRead ws)
theorem leavesAns_len (ws : List Int) : (leavesAns ws).1.length ≤ ws.length / 16 + 1 := by
  unfold leavesAns
  cases h : leavesRead ws with
  | none => simp
  | some l => exact leaves_len h
theorem Own_any (A : Option Addr) (c : Nat) (ws : List Int) (b : Int) (w : World) (h : Kd.C (Kd.int .i64) w A ws.length ws) (hc : ws.length ≤ c) (hl : ws.length ≤ 1000000000) :
    Calls Tryz.prog 6 #[.slice A ws.length c, .int .i64 b] w (PairPost (ownAns ws b) w) := by
  have HC := Lib.hid h
  have HK := Lib.hid (check_any A c ws w h hc hl)
  have HL := Lib.hid (fun W hW => leaves_any A c ws W hW hc hl)
  have HO := Lib.hid (fun w0 W hW h0 => collectOwn A c ws b w0 W hW h0 hc hl)
  have hll := leavesAns_len ws
  obtain ⟨r, hr⟩ : ∃ r, r = ownAns ws b := ⟨_, rfl⟩
  rw [← hr]
  unfold ownAns at hr
  obtain ⟨⟨l, le⟩, hla⟩ : ∃ x, x = leavesAns ws := ⟨_, rfl⟩
  rw [← hla] at hr HL hll
  simp only at hr hll
  have HR := Lib.hid hr
  generalize checkRead ws = ck at HK HR
  clear hr h hla
  by_cases hck : ck = 0
  rotate_left
  · have hne : (ck == 0) = false := by simpa using hck
    have hr2 := HR.out
    rw [if_neg hck] at hr2
    subst hr2
    clear HR hck
    go_enter Tryz.func6, Tryz.ntmps6
    go_wp2_with (go_at_call 20; refine HK.out.mono ?_; rintro e w1 ⟨rfl, hb⟩)
    go_ret2
    exact ⟨_, rfl, World.ownsRow_nil _ _ _ _, hb⟩
  subst hck
  have hr2 := HR.out
  rw [if_pos rfl] at hr2
  have HR2 := Lib.hid hr2
  clear HR hr2
  obtain ⟨q, hq⟩ : ∃ q, q = l.contains b := ⟨_, rfl⟩
  have HQ := Lib.hid hq
  rw [← hq] at HR2
  clear hq
  cases q with
  | false =>
    have hr3 := HR2.out
    rw [if_neg (by simp)] at hr3
    subst hr3
    go_enter Tryz.func6, Tryz.ntmps6
    go_wp2_with (first
      | (go_at_call 20; refine HK.out.mono ?_; rintro e w1 ⟨rfl, hb⟩; have HB := Lib.hid hb; clear hb)
      | (go_at_call 21; refine (HL.out _ (Kd.C_below HC.out HB.out)).mono ?_; rintro e w2 ⟨v, rfl, hR, hb2⟩; obtain ⟨A1, c1, rfl⟩ := Kd.R_slice hR; obtain ⟨_, hc1, hC1⟩ := Kd.R_reads' hR; have HC1 := Lib.hid hC1; have HB2 := Lib.hid (HB.out.next hb2); clear hR hb2)
      | (go_at_call 22; refine (contains_int _ _ l b _ HC1.out hc1 (by omega)).mono ?_; rw [← HQ.out]; rintro e w3 ⟨rfl, hb3⟩; have HB3 := Lib.hid (HB2.out.next hb3.below); clear hb3))
    go_ret2
    exact ⟨_, rfl, World.ownsRow_nil _ _ _ _, HB3.out⟩
  | true =>
    have hr3 := HR2.out
    rw [if_pos rfl] at hr3
    have HR3 := Lib.hid hr3
    clear hr3 HR2
    go_enter Tryz.func6, Tryz.ntmps6
    go_wp2_with (first
      | (go_at_call 20; refine HK.out.mono ?_; rintro e w1 ⟨rfl, hb⟩; have HB := Lib.hid hb; clear hb)
      | (go_at_call 21; refine (HL.out _ (Kd.C_below HC.out HB.out)).mono ?_; rintro e w2 ⟨v, rfl, hR, hb2⟩; obtain ⟨A1, c1, rfl⟩ := Kd.R_slice hR; obtain ⟨_, hc1, hC1⟩ := Kd.R_reads' hR; have HC1 := Lib.hid hC1; have HB2 := Lib.hid (HB.out.next hb2); clear hR hb2)
      | (go_at_call 22; refine (contains_int _ _ l b _ HC1.out hc1 (by omega)).mono ?_; rw [← HQ.out]; rintro e w3 ⟨rfl, hb3⟩; have HB3 := Lib.hid (HB2.out.next hb3.below); clear hb3)
      | (go_at_call 24; refine (own_any _ _ _ _ _).mono ?_; rintro e w4 ⟨rfl, rfl⟩)
      | (go_at_call 23; refine (HO.out w w3 HB3.out HC.out).mono ?_; rintro e w5 ⟨v5, rfl, hr5, hb5⟩))
    go_ret2
    rw [HR3.out]
    exact ⟨_, rfl, hr5, hb5⟩
theorem flatOwn_len (ws : List Int) : ∀ l : List Int, (l.flatMap (ownRead ws)).length ≤ 13 * l.length
  | [] => by simp
  | b :: t => by
    rw [List.flatMap_cons, List.length_append]
    have := flatOwn_len ws t
    have := ownRead_len ws b
    rw [List.length_cons]; omega
theorem own_two {w : World} {base n : Nat} {v : Value} {xs : List Value} (h : w.ownsRow base 45 2 v n xs) : ∃ A c, v = .slice A n c := by
  rcases h.2 with ⟨rfl, rfl⟩ | ⟨g, cap, cur, rfl, _⟩
  · exact ⟨none, 0, rfl⟩
  · exact ⟨_, cap, rfl⟩
theorem Pairs_any (A : Option Addr) (c : Nat) (ws : List Int) (w : World) (h : Kd.C (Kd.int .i64) w A ws.length ws) (hc : ws.length ≤ c) (hl : ws.length ≤ 1000000000) :
    Calls Tryz.prog 8 #[.slice A ws.length c] w (PairPost (pairsAns ws) w) := by
  have HC := Lib.hid h
  have HK := Lib.hid (check_any A c ws w h hc hl)
  have HL := Lib.hid (fun W hW => leaves_any A c ws W hW hc hl)
  have HA := Lib.hid (fun A2 c2 b ps w0 W hW h0 => appendOwn A A2 c c2 ws b ps w0 W hW h0 hc hl)
  have HO := Lib.hid (flatOwn_len ws)
  have hll := leavesAns_len ws
  obtain ⟨r, hr⟩ : ∃ r, r = pairsAns ws := ⟨_, rfl⟩
  rw [← hr]
  unfold pairsAns pairsRead at hr
  obtain ⟨⟨l, le⟩, hla⟩ : ∃ x, x = leavesAns ws := ⟨_, rfl⟩
  rw [← hla] at hr HL hll
  simp only at hr hll
  have HR := Lib.hid hr
  generalize checkRead ws = ck at HK HR
  generalize how : ownRead ws = ow at HR HA HO
  clear hr h hla how
  by_cases hck : ck = 0
  rotate_left
  · have hne : (ck == 0) = false := by simpa using hck
    have hr2 := HR.out
    rw [if_neg hck] at hr2
    subst hr2
    clear HR hck
    go_enter Tryz.func8, Tryz.ntmps8
    go_wp2_with (go_at_call 20; refine HK.out.mono ?_; rintro e w1 ⟨rfl, hb⟩)
    go_ret2
    exact ⟨_, rfl, World.ownsRow_nil _ _ _ _, hb⟩
  subst hck
  have hr2 := HR.out
  rw [if_pos rfl] at hr2
  subst hr2
  clear HR
  go_enter Tryz.func8, Tryz.ntmps8
  go_wp2_with (first
    | (go_at_call 20; refine HK.out.mono ?_; rintro e w1 ⟨rfl, hb⟩; have HB := Lib.hid hb; clear hb)
    | (go_at_call 21; refine (HL.out _ (Kd.C_below HC.out HB.out)).mono ?_; rintro e w2 ⟨v, rfl, hR, hb2⟩; obtain ⟨A1, c1, rfl⟩ := Kd.R_slice hR; obtain ⟨_, hc1, hC1⟩ := Kd.R_reads' hR; have HC1 := Lib.hid (RI_of_C hC1); have HB2 := Lib.hid (HB.out.next hb2); clear hR hb2 hC1))
  have HC2 := Lib.hid (Kd.C_below HC.out HB2.out)
  clear HK HL
  obtain ⟨F, hF0, hFl, hFs, hFn⟩ : ∃ F : Nat → List KV, F 0 = [] ∧ F l.length = l.flatMap ow ∧ (∀ k b, l[k]? = some b → F (k + 1) = F k ++ ow b) ∧ ∀ k, (F k).length ≤ 1000000000 := by
    refine ⟨fun k => (l.take k).flatMap ow, rfl, by simp, fun k b hbk => ?_, fun k => ?_⟩
    · show (l.take (k + 1)).flatMap ow = (l.take k).flatMap ow ++ ow b
      rw [List.take_add_one, hbk, List.flatMap_append]; simp
    · have := HO.out (l.take k)
      have h3 : (l.take k).length ≤ l.length := List.length_take_le' _ _
      show ((l.take k).flatMap ow).length ≤ _
      omega
  have HFL := Lib.hid hFl
  have HFS := Lib.hid hFs
  have HFN := Lib.hid hFn
  clear hFl hFs hFn HO
  go_loopw [2, 21] (fun s i wr => ∃ (k : Nat) (A2 : Option Addr) (c2 : Nat), k ≤ l.length ∧ i = .int .i64 k ∧ s = .slice A2 (F k).length c2 ∧ Hid (Below w2.heap.size w2 wr) ∧ Hid (wr.ownsRow w2.heap.size 45 2 (.slice A2 (F k).length c2) (F k).length (flatP (F k)))) (fun _ i _ => l.length - (intOf i).toNat)
  case atStart => exact ⟨0, none, 0, by omega, rfl, by rw [hF0]; rfl, Lib.hid (Below.refl _ _), Lib.hid (by rw [hF0]; exact World.ownsRow_nil _ _ _ _)⟩
  case round =>
    obtain ⟨k, A2, c2, hk, rfl, rfl, HB3, HR⟩ := hrel
    by_cases hlt : k < l.length
    rotate_left
    · obtain rfl : k = l.length := by omega
      go_wp2
      go_ret2
      refine ⟨.slice A2 (F l.length).length c2, rfl, ?_, HB2.out.next HB3.out⟩
      show wr.ownsRow w.heap.size 45 2 _ (l.flatMap ow).length (flatP (l.flatMap ow))
      rw [← HFL.out]
      exact own_weaken HR.out HB2.out.size
    obtain ⟨ad, b, hA1, _, hbk, hat⟩ := (HC1.out.below HB3.out).at_ hlt
    subst hA1
    have HA2 := Lib.hid (HA.out A2 c2 b (F k) w2 wr HB3.out HC2.out (HFN.out k) HR.out)
    rw [← HFS.out k b hbk] at HA2
    clear hbk
    go_wp2_with (first
      | (go_at_call 24; refine (own_any _ _ _ _ _).mono ?_; rintro e w4 ⟨rfl, rfl⟩)
      | (go_at_call 29; refine HA2.out.mono ?_; rintro e w5 ⟨v5, rfl, hr5, hb5⟩; obtain ⟨A5, c5, rfl⟩ := own_two hr5; have HR5 := Lib.hid hr5; have HB5 := Lib.hid hb5; clear hr5 hb5))
    exact ⟨⟨k + 1, A5, c5, by omega, by go_num, rfl, HB5, HR5⟩, by simp [intOf]; omega⟩
end Go.Proofs.YtliaemoomhfcdaaGreat
