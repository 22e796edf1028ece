/- The walk of the closure that seeks an order. -/
import Derived.Test.YtdblecmelmeibaaOpen
import Derived.Test.YtdblecmelmeibaaOwn
import Derived.Deep.DeepCutAuto
import Derived.Deep.CutBlock
namespace Go.Proofs.Ytdblecmelmeibaa
open Go.RowKit Go.Maps Go.ChangeMaps
set_option maxHeartbeats 1000000
set_option maxRecDepth 100000

/-- Which acts are open no longer behind one, and whether it may come first. -/
def nxTo (acts : List PA) (G i : Nat) (x : PA) (ok : Bool) : Nat → Nat × Bool
  | 0 => (G ||| 2 ^ i, ok)
  | k + 1 =>
    match acts[k]? with
    | some y => if (k != i && opn G k) && decide (y.to < x.fr) then ((nxTo acts G i x ok k).1 ||| 2 ^ k, (nxTo acts G i x ok k).2 && !y.sure) else nxTo acts G i x ok k
    | none => nxTo acts G i x ok k
def sureTo (acts : List PA) (G : Nat) : Nat → Bool
  | 0 => false
  | k + 1 => sureTo acts G k || (opn G k && ((acts[k]?).map PA.sure).getD false)

/-- There is an order of what is open. -/
inductive Feas (acts : List PA) (fin : PK) : Nat → PK → Prop
  | stop (G : Nat) : sureTo acts G acts.length = false → Feas acts fin G fin
  | step (G : Nat) (k : PK) (i : Nat) (x : PA) : acts[i]? = some x → opn G i = true → (nxTo acts G i x (behindOf k x).2 acts.length).2 = true →
      Feas acts fin (nxTo acts G i x (behindOf k x).2 acts.length).1 (behindOf k x).1 → Feas acts fin G k

/-- An act that lies at a place. -/
def At (w : World) (p : Addr) (x : PA) : Prop :=
  w.cell? p = some (.int .i64 x.fr) ∧ w.cell? ⟨p.block, p.off + 1, none⟩ = some (.int .i64 x.to) ∧ w.cell? ⟨p.block, p.off + 2, none⟩ = some (.int .i64 x.kind) ∧
    w.cell? ⟨p.block, p.off + 3, none⟩ = some (.string x.val) ∧ w.cell? ⟨p.block, p.off + 4, none⟩ = some (.bool x.found) ∧ w.cell? ⟨p.block, p.off + 5, none⟩ = some (.bool x.sure)
theorem At.kept {w w' : World} {p : Addr} {x : PA} (h : At w p x) (hk : w'.heap[p.block]? = w.heap[p.block]?) : At w' p x := by
  have e : ∀ q : Addr, q.block = p.block → w'.cell? q = w.cell? q := fun q hq => World.cell?_of_block (by rw [hq]; exact hk)
  obtain ⟨h0, h1, h2, h3, h4, h5⟩ := h
  exact ⟨(e p rfl).trans h0, (e ⟨p.block, p.off + 1, none⟩ rfl).trans h1, (e ⟨p.block, p.off + 2, none⟩ rfl).trans h2, (e ⟨p.block, p.off + 3, none⟩ rfl).trans h3, (e ⟨p.block, p.off + 4, none⟩ rfl).trans h4, (e ⟨p.block, p.off + 5, none⟩ rfl).trans h5⟩
/-- A slice that reads as these acts. -/
def RA (w : World) (A : Option Addr) (n : Nat) (acts : List PA) : Prop :=
  acts.length = n ∧ (0 < n → ∃ ad, A = some ad ∧ ad.block < w.heap.size ∧ ∀ (i : Nat) (x : PA), acts[i]? = some x → At w (ad.add (i * 6)) x)
theorem RA.at_ {w : World} {A : Option Addr} {n : Nat} {acts : List PA} (h : RA w A n acts) {k : Nat} (hk : k < n) : ∃ ad x, A = some ad ∧ ad.block < w.heap.size ∧ acts[k]? = some x ∧ At w (ad.add (k * 6)) x := by
  obtain ⟨ad, e, hb, hc⟩ := h.2 (by omega)
  have hx : acts[k]? = some (acts[k]'(by rw [h.1]; exact hk)) := List.getElem?_eq_getElem _
  exact ⟨ad, _, e, hb, hx, hc k _ hx⟩

/-- What the closure captures. -/
structure Ctx (acts : List PA) (fin : PK) (M bm bl bt bo : Nat) (A : Option Addr) (n c : Nat) (w : World) : Prop where
  hm : w.heap[bm]? = some (.cells #[.map (some M)] 51 (0, 0))
  hl : w.heap[bl]? = some (.cells #[.slice A n c] 22 (0, 0))
  ht : w.heap[bt]? = some (.cells #[.string fin.val, .bool fin.is] 50 (0, 0))
  ho : w.heap[bo]? = some (.cells #[.func (.func 17) #[] #[.pointer (some ⟨bm, 0, none⟩), .pointer (some ⟨bl, 0, none⟩), .pointer (some ⟨bt, 0, none⟩), .pointer (some ⟨bo, 0, none⟩)]] 52 (0, 0))
  hr : RA w A n acts
  ha : 0 < n → ∀ ad, A = some ad → ad.block ≠ M
  mm : Memo (fun g s i => ¬ Feas acts fin g ⟨s, i⟩) w M

def OPost (acts : List PA) (fin : PK) (M : Nat) (w : World) (G : Nat) (k : PK) (e : Ending) (w' : World) : Prop :=
  ∃ b, e = .returned (.bool b) ∧ (b = true ↔ Feas acts fin G k) ∧ Memo (fun g s i => ¬ Feas acts fin g ⟨s, i⟩) w' M ∧ w.grownBy w' (some M)

theorem bytes_eq (a b : ByteArray) : (a.toList == b.toList) = true ↔ a = b := by
  rw [ByteArray.toList_eq, ByteArray.toList_eq, beq_iff_eq]
  constructor
  · intro h
    obtain ⟨⟨l⟩⟩ := a
    obtain ⟨⟨m⟩⟩ := b
    simp at h
    rw [h]
  · rintro rfl; rfl
theorem eq50 (a b : PK) : ∃ e, (∀ w, (binOp .eql 50 (kV a) (kV b)).run Try.prog w = .ok (.bool e) w) ∧ (e = true ↔ a = b) := by
  obtain ⟨av, ai⟩ := a
  obtain ⟨bv, bi⟩ := b
  cases hi : (ai == bi) <;> cases hv : (av.toList == bv.toList)
  · refine ⟨false, fun w => by go_simp, by simp at hi; simp [hi]⟩
  · refine ⟨false, fun w => by go_simp, by simp at hi; simp [hi]⟩
  · refine ⟨false, fun w => by go_simp, ?_⟩
    simp
    intro h
    rw [(bytes_eq av bv).2 h] at hv
    cases hv
  · refine ⟨true, fun w => by go_simp, ?_⟩
    have := (bytes_eq av bv).1 hv
    simp at hi
    simp [this, hi]
theorem heap_lt {w : World} {b : Nat} {o : Obj} (h : w.heap[b]? = some o) : b < w.heap.size := by
  rcases Nat.lt_or_ge b w.heap.size with h' | h'
  · exact h'
  · rw [Array.getElem?_eq_none h'] at h; cases h
theorem Memo.kept {F : Nat → ByteArray → Bool → Prop} {w w' : World} {b : Nat} (h : Memo F w b) (he : w'.heap[b]? = w.heap[b]?) : Memo F w' b := by
  obtain ⟨es, clock, hb, hE⟩ := h
  exact ⟨es, clock, he.trans hb, hE⟩
theorem Memo.lt {F : Nat → ByteArray → Bool → Prop} {w : World} {b : Nat} (h : Memo F w b) : b < w.heap.size := by
  obtain ⟨es, clock, hb, hE⟩ := h
  exact heap_lt hb
theorem Memo.alloc {F : Nat → ByteArray → Bool → Prop} {w : World} {b : Nat} (h : Memo F w b) (o : Obj) : Memo F (w.alloc o) b := h.kept (Below.heap_alloc _ _ _ h.lt)
theorem grown_alloc {w w' : World} {r : Option Nat} (h : w.grownBy w' r) (o : Obj) : w.grownBy (w'.alloc o) r := h.trans (World.grownBy_alloc w' o r)

theorem nx_skip {acts : List PA} {G i m : Nat} {x y : PA} {ok : Bool} (hy : acts[m]? = some y) (h : ((m != i && opn G m) && decide (y.to < x.fr)) = false) : nxTo acts G i x ok (m + 1) = nxTo acts G i x ok m := by
  rw [nxTo, hy]
  simp only [h]
  rfl
theorem nx_take {acts : List PA} {G i m : Nat} {x y : PA} {ok : Bool} (hy : acts[m]? = some y) (h : ((m != i && opn G m) && decide (y.to < x.fr)) = true) :
    nxTo acts G i x ok (m + 1) = ((nxTo acts G i x ok m).1 ||| 2 ^ m, (nxTo acts G i x ok m).2 && !y.sure) := by
  rw [nxTo, hy]
  simp only [h]
  rfl
theorem wrap_pow (k : Nat) (hk : k < 32) : IntKind.u32.wrap (2 ^ k) = ((2 ^ k : Nat) : Int) := by
  have h1 : (2 : Nat) ^ k < 2 ^ 32 := Nat.pow_lt_pow_right (by decide) hk
  have e : ((2 : Int) ^ k) = ((2 ^ k : Nat) : Int) := by simp
  rw [e]
  refine wraps32 _ (Int.natCast_nonneg _) ?_
  have h2 : ((2 ^ k : Nat) : Int) < ((2 ^ 32 : Nat) : Int) := Int.ofNat_lt.2 h1
  exact Int.lt_of_lt_of_le h2 (by decide)
theorem or_next (G k : Nat) (hG : G < 4294967296) (hk : k < 32) : bits .or .u32 (G : Int) (IntKind.u32.wrap (2 ^ k)) = ((G ||| 2 ^ k : Nat) : Int) := by
  have h1 : (2 : Nat) ^ k < 2 ^ 32 := Nat.pow_lt_pow_right (by decide) hk
  rw [wrap_pow k hk]
  exact or_nat G (2 ^ k) hG (by simpa using h1)
theorem two_old (w : World) (A B : Obj) (i : Nat) (h : i < w.heap.size) : ((w.alloc A).alloc B).drew.heap[i]? = w.heap[i]? := (Below.heap_alloc (w.alloc A) B i (by simp; omega)).trans (Below.heap_alloc w A i h)
theorem two_new (w : World) (A B : Obj) : ((w.alloc A).alloc B).drew.heap[w.heap.size + 1]? = some B := heap_alloc2_new w A B
theorem or_first (G k : Nat) (hG : G < 4294967296) (hk : k < 32) : bits .or .u32 (G : Int) (2 ^ k) = ((G ||| 2 ^ k : Nat) : Int) := by
  have h1 : (2 : Nat) ^ k < 2 ^ 32 := Nat.pow_lt_pow_right (by decide) hk
  have := or_nat G (2 ^ k) hG (by simpa using h1)
  rw [← this]
  simp
theorem ne_memo {F : Nat → ByteArray → Bool → Prop} {w : World} {b M : Nat} {cs : Array Value} {t : TypeId} {fr : Nat × Nat} (h : w.heap[b]? = some (.cells cs t fr)) (hm : Memo F w M) : b ≠ M := by
  rintro rfl
  obtain ⟨es, clock, hb, _⟩ := hm
  rw [h] at hb
  cases hb

def cnt (G : Nat) : Nat → Nat
  | 0 => 0
  | k + 1 => cnt G k + if opn G k then 1 else 0
theorem cnt_le {G G' : Nat} (h : ∀ j, opn G' j = true → opn G j = true) : ∀ n, cnt G' n ≤ cnt G n
  | 0 => Nat.le_refl _
  | n + 1 => by
    have ih := cnt_le h n
    have := h n
    unfold cnt
    cases h1 : opn G' n <;> cases h2 : opn G n <;> simp_all <;> omega
theorem cnt_lt {G G' i : Nat} (h : ∀ j, opn G' j = true → opn G j = true) (h1 : opn G i = true) (h2 : opn G' i = false) : ∀ n, i < n → cnt G' n < cnt G n
  | 0, hi => by omega
  | n + 1, hi => by
    unfold cnt
    by_cases e : i = n
    · subst e
      have := cnt_le h i
      simp [h1, h2]
      omega
    · have ih := cnt_lt h h1 h2 n (by omega)
      have := h n
      cases h3 : opn G' n <;> cases h4 : opn G n <;> simp_all <;> omega
theorem opn_or (a b j : Nat) (h : opn (a ||| b) j = true) : opn a j = true := by
  unfold opn at *
  rw [Nat.testBit_or] at h
  simp at h
  simp [h.1]
theorem nx_opn (acts : List PA) (G i : Nat) (x : PA) (ok : Bool) : ∀ n j, opn (nxTo acts G i x ok n).1 j = true → opn (G ||| 2 ^ i) j = true
  | 0, j, h => h
  | n + 1, j, h => by
    rw [nxTo] at h
    split at h
    · split at h
      · exact nx_opn acts G i x ok n j (opn_or _ _ _ h)
      · exact nx_opn acts G i x ok n j h
    · exact nx_opn acts G i x ok n j h
theorem nx_lt (acts : List PA) (G i : Nat) (x : PA) (ok : Bool) (hG : G < 4294967296) (hi : i < 32) : ∀ n, n ≤ 32 → (nxTo acts G i x ok n).1 < 4294967296
  | 0, _ => by
    have h1 : (2 : Nat) ^ i < 2 ^ 32 := Nat.pow_lt_pow_right (by decide) hi
    have := Nat.or_lt_two_pow (n := 32) (show G < 2 ^ 32 by simpa using hG) h1
    simpa [nxTo] using this
  | n + 1, hn => by
    have ih := nx_lt acts G i x ok hG hi n (by omega)
    rw [nxTo]
    split
    · split
      · have h1 : (2 : Nat) ^ n < 2 ^ 32 := Nat.pow_lt_pow_right (by decide) (by omega)
        have := Nat.or_lt_two_pow (n := 32) (show (nxTo acts G i x ok n).1 < 2 ^ 32 by simpa using ih) h1
        simpa using this
      · exact ih
    · exact ih
theorem nx_cnt (acts : List PA) (G i : Nat) (x : PA) (ok : Bool) (h1 : opn G i = true) (m n : Nat) (hi : i < n) : cnt (nxTo acts G i x ok m).1 n < cnt G n :=
  cnt_lt (i := i) (fun j h => opn_or _ _ _ (nx_opn acts G i x ok m j h)) h1 (by
    cases h : opn (nxTo acts G i x ok m).1 i with
    | false => rfl
    | true =>
      have := nx_opn acts G i x ok m i h
      unfold opn at this
      rw [Nat.testBit_or, Nat.testBit_two_pow_self] at this
      simp at this) n hi

theorem behind_size (k : PK) (x : PA) (h1 : k.val.size ≤ 1000) (h2 : x.val.size ≤ 1000) : (behindOf k x).1.val.size ≤ 1000 := by
  unfold behindOf
  split
  · exact h1
  · split
    · exact h2
    · split
      · simp [ByteArray.size]
      · exact h1
theorem below_grown {w w' : World} (h : Below w.heap.size w w') (r : Option Nat) : w.grownBy w' r := ⟨h.os, h.tape, h.output, h.size, fun i hi _ => h.block i hi⟩

def Order (acts : List PA) (fin : PK) (M bm bl bt bo : Nat) (A : Option Addr) (n c d : Nat) : Prop :=
  ∀ (G : Nat) (k : PK) (w : World), cnt G n < d → G < 4294967296 → k.val.size ≤ 1000 → Ctx acts fin M bm bl bt bo A n c w →
    Calls Try.prog 17 #[stV G k.val k.is, .pointer (some ⟨bm, 0, none⟩), .pointer (some ⟨bl, 0, none⟩), .pointer (some ⟨bt, 0, none⟩), .pointer (some ⟨bo, 0, none⟩)] w (OPost acts fin M w G k)

theorem order_step (acts : List PA) (fin : PK) (M bm bl bt bo : Nat) (A : Option Addr) (n c : Nat) (hn : n ≤ 20) (hvs : ∀ x ∈ acts, x.val.size ≤ 1000) (d : Nat) (IH : Hid (Order acts fin M bm bl bt bo A n c d))
    (G : Nat) (hd : Hid (cnt G n < d + 1)) (hG : G < 4294967296) (k : PK) (hk : k.val.size ≤ 1000) (w : World)
    (hc : Ctx acts fin M bm bl bt bo A n c w) :
    Calls Try.prog 17 #[stV G k.val k.is, .pointer (some ⟨bm, 0, none⟩), .pointer (some ⟨bl, 0, none⟩), .pointer (some ⟨bt, 0, none⟩), .pointer (some ⟨bo, 0, none⟩)] w (OPost acts fin M w G k) := by
  obtain ⟨kv, ki⟩ := k
  have HKV := Lib.hid hk
  have HC := Lib.hid hc
  have c1 : w.cell? ⟨bm, 0, none⟩ = some (.map (some M)) := by rw [cell_of_row _ _ _ _ _ _ hc.hm]; rfl
  have c2 : w.cell? ⟨bl, 0, none⟩ = some (.slice A n c) := by rw [cell_of_row _ _ _ _ _ _ hc.hl]; rfl
  have l1 := heap_lt hc.hm
  have l2 := heap_lt hc.hl
  have l3 := heap_lt hc.ht
  have l4 := heap_lt hc.ho
  obtain ⟨r, hlook, hr⟩ := memo_look (hc.mm.alloc (.cells #[.int .u32 G, .string kv, .bool ki] 55)) G hG kv (by simp only [maxLen]; simp at hk; omega) ki
  have HL := Lib.hid hr
  clear hc hr
  cases r with
  | true =>
    go_enter Try.func17, Try.ntmps17
    go_wp2
    go_ret
    exact ⟨false, rfl, by have := HL.out trivial; simp [this], HC.out.mm.alloc _, grown_alloc (World.grownBy.refl _ _) _⟩
  | false =>
    go_enter Try.func17, Try.ntmps17
    go_wp2
    have HW : Hid (∃ W0 : World, W0 = w.alloc (.cells #[.int .u32 G, .string kv, .bool ki] 55)) := Lib.hid ⟨_, rfl⟩
    go_loopw [8, 24] (fun s i wr => ∃ k : Nat, k ≤ n ∧ i = .int .i64 k ∧ s = .bool (sureTo acts G k) ∧ Below (w.heap.size + 1) (w.alloc (.cells #[.int .u32 G, .string kv, .bool ki] 55)) wr) (fun _ i _ => n - (intOf i).toNat)
    case atStart => exact ⟨0, by omega, rfl, rfl, Below.refl _ _⟩
    case round =>
      obtain ⟨q, hq, rfl, rfl, hB⟩ := hrel
      by_cases hlt : q < n
      · obtain ⟨ad, x, rfl, had, hx, hcc⟩ := HC.out.hr.at_ hlt
        have hat : At wr (ad.add (q * 6)) x := hcc.kept (by rw [block_of_add]; exact (hB.block _ (by omega)).trans (Below.heap_alloc _ _ _ had))
        obtain ⟨h0, h1, h2, h3, h4, h5⟩ := hat
        have hbox : wr.heap[w.heap.size]? = some (.cells #[.int .u32 G, .string kv, .bool ki] 55 (0, 0)) := (hB.block _ (by omega)).trans (heap_alloc_new _ _)
        have HBX := Lib.hid hbox
        have hsz : w.heap.size + 1 ≤ wr.heap.size := by have := hB.size; simpa using this
        have HS : Hid (sureTo acts G (q + 1) = (sureTo acts G q || (opn G q && x.sure))) := Lib.hid (by rw [sureTo, hx]; rfl)
        clear hbox hx hcc
        cases hs : sureTo acts G q with
        | true =>
          go_wp2
          refine ⟨⟨q + 1, by omega, by go_num, by rw [HS.out, hs]; rfl, hB.alloc (by omega) _⟩, by simp [intOf]; omega⟩
        | false =>
          go_wp2_with fail
          refine (open_any G kv ki w.heap.size q 55 _ ((Below.heap_alloc _ _ _ (by omega)).trans HBX.out) (by omega) hG).mono ?_
          cases ho : opn G q with
          | false =>
            rintro e w1 ⟨rfl, rfl⟩
            go_wp2
            refine ⟨⟨q + 1, by omega, by go_num, by rw [HS.out, hs, ho]; rfl, hB.alloc (by omega) _⟩, by simp [intOf]; omega⟩
          | true =>
            rintro e w1 ⟨rfl, rfl⟩
            go_wp2
            refine ⟨⟨q + 1, by omega, by go_num, by rw [HS.out, hs, ho]; simp, hB.alloc (by omega) _⟩, by simp [intOf]; omega⟩
      · obtain rfl : q = n := by omega
        have hbox : wr.heap[w.heap.size]? = some (.cells #[.int .u32 G, .string kv, .bool ki] 55 (0, 0)) := (hB.block _ (by omega)).trans (heap_alloc_new _ _)
        have b0 : wr.cell? ⟨w.heap.size, 0, none⟩ = some (.int .u32 G) := by rw [cell_of_row _ _ _ _ _ _ hbox]; rfl
        have b1 : wr.cell? ⟨w.heap.size, 1, none⟩ = some (.string kv) := by rw [cell_of_row _ _ _ _ _ _ hbox]; rfl
        have b2 : wr.cell? ⟨w.heap.size, 2, none⟩ = some (.bool ki) := by rw [cell_of_row _ _ _ _ _ _ hbox]; rfl
        have htb : wr.heap[bt]? = some (.cells #[.string fin.val, .bool fin.is] 50 (0, 0)) := ((hB.block _ (by omega)).trans (Below.heap_alloc _ _ _ l3)).trans HC.out.ht
        have t0 : wr.cell? ⟨bt, 0, none⟩ = some (.string fin.val) := by rw [cell_of_row _ _ _ _ _ _ htb]; rfl
        have t1 : wr.cell? ⟨bt, 1, none⟩ = some (.bool fin.is) := by rw [cell_of_row _ _ _ _ _ _ htb]; rfl
        have HBX := Lib.hid hbox
        clear hbox htb
        have hlb : wr.heap[bl]? = some (.cells #[.slice A q c] 22 (0, 0)) := ((hB.block _ (by omega)).trans (Below.heap_alloc _ _ _ l2)).trans HC.out.hl
        have s0 : wr.cell? ⟨bl, 0, none⟩ = some (.slice A q c) := by rw [cell_of_row _ _ _ _ _ _ hlb]; rfl
        clear hlb
        obtain ⟨e, heq, hek⟩ := eq50 ⟨kv, ki⟩ fin
        have HEK := Lib.hid hek
        clear hek
        have HQ : Hid (acts.length = q) := Lib.hid HC.out.hr.1
        have hmr : Memo (fun g s i => ¬ Feas acts fin g ⟨s, i⟩) wr M := (HC.out.mm.alloc _).kept (hB.block _ (by have := HC.out.mm.lt; omega))
        have HMR := Lib.hid hmr
        clear hmr
        have hgw : w.grownBy wr (some M) := (grown_alloc (World.grownBy.refl w (some M)) (.cells #[.int .u32 G, .string kv, .bool ki] 55)).trans ⟨hB.os, hB.tape, hB.output, hB.size, fun i hi _ => hB.block i (by simpa using hi)⟩
        have HGW := Lib.hid hgw
        clear hgw
        obtain ⟨sv, hsv⟩ : ∃ sv, sureTo acts G q = sv := ⟨_, rfl⟩
        rw [hsv]
        by_cases hse : sv = false ∧ e = true
        · obtain ⟨rfl, rfl⟩ := hse
          go_wp2
          go_ret
          refine ⟨true, rfl, ⟨fun _ => ?_, fun _ => rfl⟩, HMR.out, HGW.out⟩
          rw [HEK.out.1 (by first | trivial | rfl)]
          exact .stop G (by rw [HQ.out]; exact hsv)
        · have HNS : Hid (¬ (sureTo acts G acts.length = false ∧ (⟨kv, ki⟩ : PK) = fin)) := Lib.hid (by rw [HQ.out, hsv]; rintro ⟨h1, h2⟩; exact hse ⟨h1, HEK.out.2 h2⟩)
          have HDI : Hid (sv = true ∨ (sv = false ∧ e = false)) := Lib.hid (by cases hsv' : sv with | true => exact .inl rfl | false => cases he' : e with | true => exact absurd ⟨hsv', he'⟩ hse | false => exact .inr ⟨rfl, rfl⟩)
          clear hsv HEK hse
          have HM1 : Hid (w.heap.size ≠ M) := Lib.hid (ne_memo HBX.out HMR.out)
          have hblM : bl ≠ M := ne_memo HC.out.hl HC.out.mm
          have hwsz : w.heap.size < wr.heap.size := heap_lt HBX.out
          obtain ⟨wo, rfl⟩ : ∃ wo : World, wo = wr := ⟨_, rfl⟩
          go_upto_region 10 with fail
          go_cut [47] (fun s47 wx => s47 = .bool false ∧ wx = wo)
          case first =>
            rcases HDI.out with rfl | ⟨rfl, rfl⟩
            · go_wp2_with fail
              go_meet
              exact ⟨rfl, rfl⟩
            · go_wp2_with fail
              go_meet
              exact ⟨rfl, rfl⟩
          case rest =>
            obtain ⟨rfl, hwc⟩ := hcut
            have hwc2 := hwc.symm
            clear hwc
            subst hwc2
            go_wp2
            go_loopw [50] (fun i wi => ∃ k : Nat, k ≤ q ∧ i = .int .i64 k ∧ Hid (∀ (j : Nat) (x : PA), j < k → acts[j]? = some x → opn G j = true → (nxTo acts G j x (behindOf ⟨kv, ki⟩ x).2 acts.length).2 = true → ¬ Feas acts fin (nxTo acts G j x (behindOf ⟨kv, ki⟩ x).2 acts.length).1 (behindOf ⟨kv, ki⟩ x).1) ∧ Hid (Memo (fun g s i => ¬ Feas acts fin g ⟨s, i⟩) wi M) ∧ wo.grownBy wi (some M)) (fun i _ => q - (intOf i).toNat)
            case atStart => exact ⟨0, by omega, rfl, Lib.hid (fun j x hj => by omega), HMR, World.grownBy.refl _ _⟩
            case round =>
              obtain ⟨k, hk, rfl, HF, HMM, hgr⟩ := hrel
              have S0 : wr.cell? ⟨bl, 0, none⟩ = some (.slice A q c) := (World.grownBy.cell_far hgr ⟨bl, 0, none⟩ (by show bl < _; omega) (by simp; exact hblM)).trans s0
              have hbx : wr.heap[w.heap.size]? = some (.cells #[.int .u32 G, .string kv, .bool ki] 55 (0, 0)) := (hgr.block _ hwsz (by simp; exact HM1.out)).trans HBX.out
              have B0 : wr.cell? ⟨w.heap.size, 0, none⟩ = some (.int .u32 G) := by rw [cell_of_row _ _ _ _ _ _ hbx]; rfl
              have B1 : wr.cell? ⟨w.heap.size, 1, none⟩ = some (.string kv) := by rw [cell_of_row _ _ _ _ _ _ hbx]; rfl
              have B2 : wr.cell? ⟨w.heap.size, 2, none⟩ = some (.bool ki) := by rw [cell_of_row _ _ _ _ _ _ hbx]; rfl
              have HBW := Lib.hid hbx
              clear hbx
              have hszr : w.heap.size < wr.heap.size := by have := hgr.size; omega
              by_cases hlt2 : k < q
              · obtain ⟨ad, x, rfl, had, hx, hcc⟩ := HC.out.hr.at_ hlt2
                have hadM : ad.block ≠ M := HC.out.ha (by omega) ad rfl
                have hat : At wr (ad.add (k * 6)) x := hcc.kept (by rw [block_of_add]; exact ((hgr.block _ (by omega) (by simp; exact hadM)).trans (hB.block _ (by omega))).trans (Below.heap_alloc _ _ _ had))
                obtain ⟨h0, h1, h2, h3, h4, h5⟩ := hat
                have HX := Lib.hid hx
                clear hx hcc
                go_wp2_with fail
                refine (behind_any ⟨kv, ki⟩ x _).mono ?_
                obtain ⟨⟨⟨nv, ni⟩, nok⟩, HBH⟩ : ∃ R, Hid (behindOf ⟨kv, ki⟩ x = R) := ⟨_, Lib.hid rfl⟩
                rw [HBH.out]
                rintro e w1 ⟨rfl, hB1⟩
                have hwk : IntKind.u32.wrap (2 ^ k) = ((2 ^ k : Nat) : Int) := wrap_pow k (by omega)
                have B0' : w1.cell? ⟨w.heap.size, 0, none⟩ = some (.int .u32 G) := (hB1.cell (by simp; omega)).trans ((World.cell?_of_block (w := wr) (Below.heap_alloc _ _ _ hszr)).trans B0)
                have hs1 : wr.heap.size + 1 ≤ w1.heap.size := by have := hB1.size; simpa using this
                have hs2 : w.heap.size < w1.heap.size := by omega
                have hs3 : w.heap.size ≠ w1.heap.size := by omega
                go_upto_region 16 with fail
                go_cut [15] (fun s15 wx => s15 = .pointer (some ⟨w1.heap.size + 1, 0, none⟩) ∧ wx = ((w1.alloc (.cells #[.string nv, .bool ni] 50)).alloc (.cells #[.int .u32 (bits .or .u32 (G : Int) (2 ^ k)), .string nv, .bool ni] 55)).drew)
                case first =>
                  go_region_with (fail)
                  all_goals (go_wp2_with fail; go_meet; exact ⟨rfl, rfl⟩)
                case rest =>
                  obtain ⟨rfl, hwc⟩ := hcut
                  have S1 : w1.cell? ⟨bl, 0, none⟩ = some (.slice (some ad) q c) := (hB1.cell (by simp; omega)).trans ((World.cell?_of_block (w := wr) (Below.heap_alloc wr _ bl (by omega))).trans S0)
                  have hblw : bl < w1.heap.size := by omega
                  have S2 : wc.cell? ⟨bl, 0, none⟩ = some (.slice (some ad) q c) := by rw [hwc]; exact (World.cell?_of_block (w := w1) (two_old w1 _ _ _ hblw)).trans S1
                  have hNX : wc.heap[w1.heap.size + 1]? = some (.cells #[.int .u32 ((nxTo acts G k x nok 0).1 : Nat), .string nv, .bool ni] 55 (0, 0)) := by
                    rw [hwc, two_new, or_first G k hG (by omega)]
                    rfl
                  have hXB : wc.heap[wr.heap.size]? = some (.cells #[.int .i64 x.fr, .int .i64 x.to, .int .i64 x.kind, .string x.val, .bool x.found, .bool x.sure] 37 (0, 0)) := by
                    rw [hwc, two_old w1 _ _ _ (by omega)]
                    exact (hB1.block _ (by simp)).trans (heap_alloc_new wr _)
                  have hold : ∀ i, i < wr.heap.size → wc.heap[i]? = wr.heap[i]? := fun i hi => by
                    rw [hwc, two_old w1 _ _ _ (by omega)]
                    exact (hB1.block _ (by simp; omega)).trans (Below.heap_alloc wr _ _ hi)
                  have hszc : w1.heap.size + 2 ≤ wc.heap.size := by rw [hwc]; simp [World.drew]
                  obtain ⟨wq, rfl⟩ : ∃ wq : World, wq = wr := ⟨_, rfl⟩
                  have HWC := Lib.hid hwc
                  clear hwc S1 B0' B0 B1 B2 S0
                  go_wp2
                  go_loopw [14, 71] (fun ov iv wi => ∃ m : Nat, m ≤ q ∧ iv = .int .i64 m ∧ ov = .bool (nxTo acts G k x nok m).2 ∧ wi.heap[w1.heap.size + 1]? = some (.cells #[.int .u32 ((nxTo acts G k x nok m).1 : Nat), .string nv, .bool ni] 55 (0, 0)) ∧ Below (w1.heap.size + 1) wc wi) (fun _ i _ => q - (intOf i).toNat)
                  case atStart => exact ⟨0, by omega, rfl, rfl, hNX, Below.refl _ _⟩
                  case round =>
                    obtain ⟨m, hm, rfl, rfl, hnx, hBm⟩ := hrel
                    have hszm : w1.heap.size + 2 ≤ wr.heap.size := by have := hBm.size; omega
                    by_cases hlt3 : m < q
                    · obtain ⟨ad', y, he, had', hy, hyc⟩ := HC.out.hr.at_ hlt3
                      obtain rfl : ad = ad' := by injection he
                      have hat : At wr (ad.add (m * 6)) y := hyc.kept (by
                        rw [block_of_add]
                        exact (hBm.block _ (by omega)).trans ((hold _ (by omega)).trans ((hgr.block _ (by omega) (by simp; exact hadM)).trans ((hB.block _ (by omega)).trans (Below.heap_alloc _ _ _ had)))))
                      obtain ⟨y0, y1, y2, y3, y4, y5⟩ := hat
                      have hbm : wr.heap[w.heap.size]? = some (.cells #[.int .u32 G, .string kv, .bool ki] 55 (0, 0)) := (hBm.block _ (by omega)).trans ((hold _ (by omega)).trans HBW.out)
                      have HBMX := Lib.hid hbm
                      have hxm : wr.heap[wq.heap.size]? = some (.cells #[.int .i64 x.fr, .int .i64 x.to, .int .i64 x.kind, .string x.val, .bool x.found, .bool x.sure] 37 (0, 0)) := (hBm.block _ (by omega)).trans hXB
                      have x0 : wr.cell? ⟨wq.heap.size, 0, none⟩ = some (.int .i64 x.fr) := by rw [cell_of_row _ _ _ _ _ _ hxm]; rfl
                      have n0 : wr.cell? ⟨w1.heap.size + 1, 0, none⟩ = some (.int .u32 ((nxTo acts G k x nok m).1 : Nat)) := by rw [cell_of_row _ _ _ _ _ _ hnx]; rfl
                      have nf : wr.frozen? ⟨w1.heap.size + 1, 0, none⟩ = false := frozen_of_row _ _ _ _ _ hnx
                      have hq1 : wq.heap.size < wr.heap.size := by omega
                      have hq2 : w.heap.size < wr.heap.size := by omega
                      have hq3 : w1.heap.size + 1 < wr.heap.size := by omega
                      have HY := Lib.hid hy
                      have HNX := Lib.hid hnx
                      clear hbm hxm hy hyc hnx
                      cases hmk : (m != k) with
                      | false =>
                        have hmk2 : m = k := by simpa using hmk
                        have HSK := Lib.hid (nx_skip (G := G) (i := k) (x := x) (ok := nok) HY.out (by rw [hmk]; rfl))
                        clear hmk
                        subst hmk2
                        go_wp2
                        refine ⟨⟨m + 1, by omega, by go_num, by rw [HSK.out], by rw [HSK.out]; exact (Below.heap_alloc _ _ _ hq3).trans HNX.out, hBm.alloc (by omega) _⟩, by simp [intOf]; omega⟩
                      | true =>
                        have hmk2 : ¬ m = k := by simpa using hmk
                        have HMK := Lib.hid hmk
                        go_wp2_with fail
                        refine (open_any G kv ki w.heap.size m 55 _ ((Below.heap_alloc _ _ _ hq2).trans HBMX.out) (by omega) hG).mono ?_
                        cases hom : opn G m with
                        | false =>
                          have HSK := Lib.hid (nx_skip (G := G) (i := k) (x := x) (ok := nok) HY.out (by rw [hom]; simp))
                          rintro e w3 ⟨rfl, rfl⟩
                          go_wp2
                          refine ⟨⟨m + 1, by omega, by go_num, by rw [HSK.out], by rw [HSK.out]; exact (Below.heap_alloc _ _ _ hq3).trans HNX.out, hBm.alloc (by omega) _⟩, by simp [intOf]; omega⟩
                        | true =>
                          rintro e w3 ⟨rfl, rfl⟩
                          by_cases hyx : y.to < x.fr
                          · have HTK := Lib.hid (nx_take (G := G) (i := k) (x := x) (ok := nok) HY.out (by rw [HMK.out, hom]; simpa using hyx))
                            have n1 : (wr.setCell ⟨w1.heap.size + 1, 0, none⟩ (.int .u32 (bits .or .u32 ((nxTo acts G k x nok m).1 : Nat) (IntKind.u32.wrap (2 ^ m))))).heap[w1.heap.size + 1]? = some (.cells #[.int .u32 ((nxTo acts G k x nok (m + 1)).1 : Nat), .string nv, .bool ni] 55 (0, 0)) := by
                              rw [heap_setCell_same _ _ _ _ _ _ HNX.out, HTK.out, or_next _ m (nx_lt acts G k x nok hG (by omega) m (by omega)) (by omega)]
                              rfl
                            have HN1 := Lib.hid n1
                            clear n1
                            cases hnk : (nxTo acts G k x nok m).2 with
                            | false =>
                              go_upto_region 21 with fail
                              go_region_with (fail)
                              go_wp2
                              refine ⟨⟨m + 1, by omega, by go_num, by rw [HTK.out, hnk]; rfl, (Below.heap_alloc _ _ _ (by simpa using hq3)).trans HN1.out, ((hBm.setCell (Nat.le_refl _) _).alloc (by simp; omega) _).drew⟩, by simp [intOf]; omega⟩
                            | true =>
                              go_upto_region 21 with fail
                              go_region_with (fail)
                              go_wp2
                              refine ⟨⟨m + 1, by omega, by go_num, by rw [HTK.out, hnk]; simp, (Below.heap_alloc _ _ _ (by simpa using hq3)).trans HN1.out, ((hBm.setCell (Nat.le_refl _) _).alloc (by simp; omega) _).drew⟩, by simp [intOf]; omega⟩
                          · have HSK := Lib.hid (nx_skip (G := G) (i := k) (x := x) (ok := nok) HY.out (by rw [hom]; simp; omega))
                            go_wp2
                            refine ⟨⟨m + 1, by omega, by go_num, by rw [HSK.out], by rw [HSK.out]; exact (Below.heap_alloc _ _ _ hq3).trans HNX.out, hBm.alloc (by omega) _⟩, by simp [intOf]; omega⟩
                    · obtain rfl : m = q := by omega
                      have hQ0 : Below wq.heap.size wq wc := by rw [HWC.out]; exact (((((Below.refl _ _).alloc (Nat.le_refl _) _).trans (hB1.mono (by simp))).alloc (by omega) _).alloc (by simp; omega) _).drew
                      have HQ1 := Lib.hid (hQ0.trans (hBm.mono (by omega)))
                      clear hQ0
                      have hbm : wr.heap[w.heap.size]? = some (.cells #[.int .u32 G, .string kv, .bool ki] 55 (0, 0)) := (hBm.block _ (by omega)).trans ((hold _ (by omega)).trans HBW.out)
                      have HBMX := Lib.hid hbm
                      clear hbm
                      have hlen := HQ.out
                      cases hok : opn G k with
                      | false =>
                        go_wp2_with fail
                        refine (open_any G kv ki w.heap.size k 55 _ HBMX.out (by omega) hG).mono ?_
                        rw [hok]
                        rintro e w3 ⟨rfl, rfl⟩
                        go_wp2
                        refine ⟨⟨k + 1, by omega, by go_num, Lib.hid (fun j x' hj hx' ho => ?_), Lib.hid (HMM.out.kept (HQ1.out.block _ HMM.out.lt)), hgr.trans (below_grown HQ1.out _)⟩, by simp [intOf]; omega⟩
                        by_cases hjk : j = k
                        · subst hjk; rw [hok] at ho; cases ho
                        · exact HF.out j x' (by omega) hx' ho
                      | true =>
                        cases hnk : (nxTo acts G k x nok m).2 with
                        | false =>
                          go_wp2_with fail
                          refine (open_any G kv ki w.heap.size k 55 _ HBMX.out (by omega) hG).mono ?_
                          rw [hok]
                          rintro e w3 ⟨rfl, rfl⟩
                          go_wp2
                          refine ⟨⟨k + 1, by omega, by go_num, Lib.hid (fun j x' hj hx' ho hn2 => ?_), Lib.hid (HMM.out.kept (HQ1.out.block _ HMM.out.lt)), hgr.trans (below_grown HQ1.out _)⟩, by simp [intOf]; omega⟩
                          by_cases hjk : j = k
                          · subst hjk
                            rw [HX.out] at hx'
                            injection hx' with hx'
                            subst hx'
                            rw [HBH.out, hlen] at hn2
                            rw [hn2] at hnk
                            cases hnk
                          · exact HF.out j x' (by omega) hx' ho hn2
                        | true =>
                          have hch : ∀ i, i < w.heap.size → i ≠ M → wr.heap[i]? = w.heap[i]? := fun i hi hne =>
                            (HQ1.out.block _ (by omega)).trans ((hgr.block _ (by omega) (by simp; exact hne)).trans ((hB.block _ (by omega)).trans (Below.heap_alloc _ _ _ hi)))
                          have hcx : Ctx acts fin M bm bl bt bo (some ad) m c wr := by
                            refine ⟨(hch _ l1 (ne_memo HC.out.hm HC.out.mm)).trans HC.out.hm, (hch _ l2 (ne_memo HC.out.hl HC.out.mm)).trans HC.out.hl, (hch _ l3 (ne_memo HC.out.ht HC.out.mm)).trans HC.out.ht, (hch _ l4 (ne_memo HC.out.ho HC.out.mm)).trans HC.out.ho, ⟨HC.out.hr.1, fun h0 => ?_⟩, HC.out.ha, HMM.out.kept (HQ1.out.block _ HMM.out.lt)⟩
                            obtain ⟨ad2, he2, hb2, hc2⟩ := HC.out.hr.2 h0
                            refine ⟨ad2, he2, by omega, fun i x' hx' => (hc2 i x' hx').kept (by rw [block_of_add]; exact hch _ hb2 (HC.out.ha h0 ad2 he2))⟩
                          have HCX := Lib.hid hcx
                          have o0 : wr.cell? ⟨bo, 0, none⟩ = some (.func (.func 17) #[] #[.pointer (some ⟨bm, 0, none⟩), .pointer (some ⟨bl, 0, none⟩), .pointer (some ⟨bt, 0, none⟩), .pointer (some ⟨bo, 0, none⟩)]) := by rw [cell_of_row _ _ _ _ _ _ hcx.ho]; rfl
                          have n0 : wr.cell? ⟨w1.heap.size + 1, 0, none⟩ = some (.int .u32 ((nxTo acts G k x nok m).1 : Nat)) := by rw [cell_of_row _ _ _ _ _ _ hnx]; rfl
                          have n1 : wr.cell? ⟨w1.heap.size + 1, 1, none⟩ = some (.string nv) := by rw [cell_of_row _ _ _ _ _ _ hnx]; rfl
                          have n2 : wr.cell? ⟨w1.heap.size + 1, 2, none⟩ = some (.bool ni) := by rw [cell_of_row _ _ _ _ _ _ hnx]; rfl
                          have hns : nv.size ≤ 1000 := by
                            have := behind_size ⟨kv, ki⟩ x HKV.out (hvs x (List.mem_of_getElem? HX.out))
                            rw [HBH.out] at this
                            exact this
                          have HLT := Lib.hid (nx_lt acts G k x nok hG (by omega) m (by omega))
                          have HCN : Hid (cnt (nxTo acts G k x nok m).1 m < d) := Lib.hid (by have h1 := nx_cnt acts G k x nok hok m m (by omega); have h2 := hd.out; omega)
                          clear hch hcx
                          go_wp2_with fail
                          refine (open_any G kv ki w.heap.size k 55 _ HBMX.out (by omega) hG).mono ?_
                          rw [hok]
                          rintro e w3 ⟨rfl, rfl⟩
                          go_wp2_with fail
                          refine (IH.out (nxTo acts G k x nok m).1 ⟨nv, ni⟩ _ HCN.out HLT.out hns HCX.out).mono ?_
                          rintro e w4 ⟨b, rfl, hbF, hmm4, hg4⟩
                          cases b with
                          | true =>
                            have HFE : Hid (Feas acts fin G ⟨kv, ki⟩) := Lib.hid (.step G ⟨kv, ki⟩ k x HX.out hok (by rw [HBH.out, hlen]; exact hnk) (by rw [HBH.out, hlen]; exact hbF.1 rfl))
                            go_wp2
                            go_ret
                            exact ⟨true, rfl, ⟨fun _ => HFE.out, fun _ => rfl⟩, hmm4, HGW.out.trans (hgr.trans ((below_grown HQ1.out _).trans hg4))⟩
                          | false =>
                            have HNF : Hid (¬ Feas acts fin (nxTo acts G k x nok m).1 ⟨nv, ni⟩) := Lib.hid (fun h => by have := hbF.2 h; cases this)
                            have HM4 := Lib.hid hmm4
                            clear hbF hmm4
                            go_wp2
                            refine ⟨⟨k + 1, by omega, by go_num, Lib.hid (fun j x' hj hx' ho hn2 => ?_), HM4, hgr.trans ((below_grown HQ1.out _).trans hg4)⟩, by simp [intOf]; omega⟩
                            by_cases hjk : j = k
                            · subst hjk
                              rw [HX.out] at hx'
                              injection hx' with hx'
                              subst hx'
                              rw [HBH.out, hlen]
                              exact HNF.out
                            · exact HF.out j x' (by omega) hx' ho hn2
              · obtain rfl : k = q := by omega
                have hNF : ¬ Feas acts fin G ⟨kv, ki⟩ := by
                  intro h
                  cases h with
                  | stop _ h1 => exact HNS.out ⟨h1, rfl⟩
                  | step _ _ i x h1 h2 h3 h4 =>
                    refine HF.out i x ?_ h1 h2 h3 h4
                    rw [← HQ.out]
                    rcases Nat.lt_or_ge i acts.length with h' | h'
                    · exact h'
                    · rw [List.getElem?_eq_none h'] at h1; cases h1
                obtain ⟨w', hrun, hM', hg'⟩ := memo_put HMM.out G hG kv (Nat.le_trans (show kv.size ≤ 1000 from HKV.out) (by simp only [maxLen]; decide)) ki hNF
                have M0 : wr.cell? ⟨bm, 0, none⟩ = some (.map (some M)) := by
                  rw [cell_of_row _ _ _ _ _ _ ((hgr.block _ (by omega) (by simp; exact ne_memo HC.out.hm HC.out.mm)).trans ((hB.block _ (by omega)).trans ((Below.heap_alloc _ _ _ l1).trans HC.out.hm)))]
                  rfl
                have HN2 := Lib.hid hNF
                have HMN := Lib.hid hM'
                have HGN := Lib.hid hg'
                clear hNF hM' hg'
                go_wp2
                go_ret
                exact ⟨false, rfl, ⟨(fun h => by cases h), fun h => absurd h HN2.out⟩, HMN.out, HGW.out.trans (hgr.trans HGN.out)⟩

theorem order_all (acts : List PA) (fin : PK) (M bm bl bt bo : Nat) (A : Option Addr) (n c : Nat) (hn : n ≤ 20) (hvs : ∀ x ∈ acts, x.val.size ≤ 1000) : ∀ d, Order acts fin M bm bl bt bo A n c d
  | 0 => fun _ _ _ h => by omega
  | d + 1 => fun G k w hd hG hk hc => order_step acts fin M bm bl bt bo A n c hn hvs d (Lib.hid (order_all acts fin M bm bl bt bo A n c hn hvs d)) G (Lib.hid hd) hG k hk w hc
end Go.Proofs.Ytdblecmelmeibaa
