/- The walk of the law NetPlays. -/
import Derived.Test.YtegpoghgddjmaaaNetTake3
import Derived.Deep.CutBlock
import Derived.Deep.RegionHeld3
namespace Go.Proofs.Ytegpoghgddjmaaa
open Go.RowKit
set_option maxRecDepth 100000

theorem bytes_new {W W' : World} {A : Option Addr} {l : List UInt8} (h : Bytes W W.heap.size A l) (hb : Below W.heap.size W W') : Bytes W' W'.heap.size A l := (h.below hb).more hb.size
theorem same_key {m y : Ms} (h : m.key = y.key) : sameS y.a m.a y.h m.h y.l m.l = true := by
  unfold Ms.key at h
  injection h with h1 h
  injection h with h2 h3
  simp [sameS, h1, h2, h3]
/-- An act's cells at block p. -/
structure AC (W : World) (p : Nat) (x : Ac) : Prop where
  c0 : W.cell? ⟨p, 0, none⟩ = some (.int .i64 x.kind)
  c1 : W.cell? ⟨p, 1, none⟩ = some (.int .i64 x.i)
  c2 : W.cell? ⟨p, 2, none⟩ = some (.int .i64 x.k)
  c3 : W.cell? ⟨p, 3, none⟩ = some (.bool x.m.a)
  c4 : W.cell? ⟨p, 4, none⟩ = some (.int .i64 x.m.h)
  c5 : W.cell? ⟨p, 5, none⟩ = some (.slice x.m.A x.m.n x.m.c)
theorem AC.made (W : World) (x : Ac) (t : TypeId) : AC (W.alloc (.cells #[.int .i64 x.kind, .int .i64 x.i, .int .i64 x.k, .bool x.m.a, .int .i64 x.m.h, .slice x.m.A x.m.n x.m.c] t)) W.heap.size x :=
  ⟨cell_of_row _ _ _ _ _ _ (heap_alloc_new W _), cell_of_row _ _ _ _ _ _ (heap_alloc_new W _), cell_of_row _ _ _ _ _ _ (heap_alloc_new W _), cell_of_row _ _ _ _ _ _ (heap_alloc_new W _), cell_of_row _ _ _ _ _ _ (heap_alloc_new W _), cell_of_row _ _ _ _ _ _ (heap_alloc_new W _)⟩
theorem AC.keep {W W' : World} {p : Nat} {x : Ac} (k : AC W p x) (hb : W'.heap[p]? = W.heap[p]?) : AC W' p x :=
  ⟨(World.cell?_of_block hb).trans k.c0, (World.cell?_of_block hb).trans k.c1, (World.cell?_of_block hb).trans k.c2, (World.cell?_of_block hb).trans k.c3, (World.cell?_of_block hb).trans k.c4, (World.cell?_of_block hb).trans k.c5⟩
def zeroM : Ms := ⟨false, 0, none, 0, 0, []⟩
/-- The state with the act and the message x beside. -/
structure PS (w W : World) (g : Nat) (v vm : Value) (M Mm : List Ms) (pa px : Nat) (x : Ac) (y : Ms) (ps : List Nat) : Prop where
  s : NS w W g v vm M Mm ps
  a : AC W pa x
  c : MC W px y.a y.h (.slice y.A y.n y.c)
  ha : pa ∈ ps
  hx : px ∈ ps
  ne : pa ≠ px
section
variable {w W W' : World} {g : Nat} {v v' vm vm' : Value} {M M' Mm Mm' : List Ms} {pa px : Nat} {x : Ac} {y : Ms} {ps : List Nat}
theorem PS.keep (h : PS w W g v vm M Mm pa px x y ps) (hs : NS w W' g v' vm' M' Mm' ps) (hb : ∀ p ∈ ps, W'.heap[p]? = W.heap[p]?) : PS w W' g v' vm' M' Mm' pa px x y ps :=
  ⟨hs, h.a.keep (hb _ h.ha), h.c.keep (hb _ h.hx), h.ha, h.hx, h.ne⟩
theorem PS.new_ (h : PS w W g v vm M Mm pa px x y ps) (hb : Below W.heap.size W W') : PS w W' g v vm M Mm pa px x y ps :=
  h.keep (h.s.new_ hb) (fun p hp => hb.block p (h.s.loc p hp).2.1)
theorem PS.more (h : PS w W g v vm M Mm pa px x y ps) {q : Nat} (hw : w.heap.size ≤ q) (hs : q < W.heap.size) (ha : Avoid g v vm M q) : PS w W g v vm M Mm pa px x y (q :: ps) :=
  ⟨h.s.more hw hs ha, h.a, h.c, List.mem_cons_of_mem _ h.ha, List.mem_cons_of_mem _ h.hx, h.ne⟩
theorem PS.made (h : PS w W g v vm M Mm pa px x y ps) (o : Obj) : PS w (W.alloc o) g v vm M Mm pa px x y (W.heap.size :: ps) :=
  (h.new_ (na (nr W) o)).more h.s.b.size (by simp) (h.s.avoid (Nat.le_refl _))
theorem PS.net (h : PS w W g v vm M Mm pa px x y ps) (hN : OwnN W' g v' M') (hG : Grew W W' g v v') (hM : ∀ m ∈ M', m ∈ M ∨ (0 < m.l.length → ∀ b o, m.A = some ⟨b, o, none⟩ → W.heap.size ≤ b)) : PS w W' g v' vm M' Mm pa px x y ps :=
  h.keep (h.s.net hN hG hM).1 (h.s.net hN hG hM).2
theorem PS.grow (h : PS w W g v vm M Mm pa px x y ps) (hR : W'.ownsRow w.heap.size 54 3 vm' Mm'.length (rowM Mm')) (hg : W.grownBy W' vm.ownBlock) (hat : vm'.ownBlock = vm.ownBlock ∨ vm'.ownBlock = some W.heap.size)
    (hD : ∀ x ∈ Mm', Bytes w w.heap.size x.A x.l ∧ x.l.length = x.n ∧ (x.A = none → x.c = 0) ∧ x.n ≤ 300) : PS w W' g v vm' M Mm' pa px x y ps :=
  h.keep (h.s.grow hR hg hat hD).1 (h.s.grow hR hg hat hD).2
/-- A store at another local's block. -/
theorem PS.set (h : PS w W g v vm M Mm pa px x y ps) {p : Nat} (hp : p ∈ ps) (h1 : p ≠ pa) (h2 : p ≠ px) (j : Nat) (u : Value) : PS w (W.setCell ⟨p, j, none⟩ u) g v vm M Mm pa px x y ps :=
  ⟨h.s.set hp j u, h.a.keep (Below.heap_setCell _ _ _ _ (show pa ≠ p from fun e => h1 e.symm)), h.c.keep (Below.heap_setCell _ _ _ _ (show px ≠ p from fun e => h2 e.symm)), h.ha, h.hx, h.ne⟩
end
/-- Between the acts. -/
def PL (w wr : World) (g k : Nat) (vm : Value) : Prop := ∃ v M Mm, NS w wr g v vm M Mm [] ∧ Like M Mm ∧ M.length ≤ k
/-- Where x is read. -/
def XJ (w W : World) (g : Nat) (v vm : Value) (M Mm : List Ms) (pa px : Nat) (x : Ac) (hb : Bool) : Prop :=
  ∃ y : Ms, PS w W g v vm M Mm pa px x y [px, pa] ∧ (hb = true → ∃ i : Nat, x.i = i ∧ Mm[i]? = some y) ∧ (hb = false → y = zeroM ∧ (x.i < 0 ∨ (Mm.length : Int) ≤ x.i))
/-- While a message that was looked at is overwritten. -/
structure YW (w wc W : World) (g : Nat) (v vm : Value) (M Mm : List Ms) (py : Nat) (a : Bool) (h : Int) (A : Option Addr) (n cp : Nat) : Prop where
  s : NS w W g v vm M Mm []
  c : MC W py a h (.slice A n cp)
  d : ∃ l : List UInt8, l.length = n ∧ Own W wc.heap.size (.slice A n cp) l
  lt : ∀ q, (Value.slice A n cp).ownBlock = some q → q < py
  av : ∀ q, wc.heap.size ≤ q → Avoid g v vm M q
  ww : w.heap.size ≤ wc.heap.size
theorem YW.put {w wc W : World} {g : Nat} {v vm : Value} {M Mm : List Ms} {py : Nat} {a : Bool} {h : Int} {A : Option Addr} {n c : Nat} (k : YW w wc W g v vm M Mm py a h A n c) {q : Nat} (hq : wc.heap.size ≤ q) (hqs : q < W.heap.size) (hne : q ≠ py) (j : Nat) (u : Value)
    (hd : ∃ l : List UInt8, l.length = n ∧ Own (W.setCell ⟨q, j, none⟩ u) wc.heap.size (.slice A n c) l) : YW w wc (W.setCell ⟨q, j, none⟩ u) g v vm M Mm py a h A n c :=
  ⟨((k.s.more (Nat.le_trans k.ww hq) hqs (k.av q hq)).set (List.mem_cons_self ..) j u).less (fun p hp => (by cases hp)), k.c.keep (Below.heap_setCell _ _ _ _ (show py ≠ q from fun e => hne e.symm)), hd, k.lt, k.av, k.ww⟩
theorem YW.new_ {w wc W W' : World} {g : Nat} {v vm : Value} {M Mm : List Ms} {py : Nat} {a : Bool} {h : Int} {A : Option Addr} {n c : Nat} (k : YW w wc W g v vm M Mm py a h A n c) (hb : Below W.heap.size W W') : YW w wc W' g v vm M Mm py a h A n c := by
  obtain ⟨l, h1, h2⟩ := k.d
  exact ⟨k.s.new_ hb, k.c.keep (hb.block py (block_lt_of_cell k.c.c0)), ⟨l, h1, h2.new_ hb⟩, k.lt, k.av, k.ww⟩
/-- While the bytes that were sent are overwritten. -/
structure QW (w W : World) (g : Nat) (v vm : Value) (M Mm : List Ms) (pa px : Nat) (x : Ac) (y : Ms) (B : Nat) (A : Option Addr) (n cp : Nat) : Prop where
  s : PS w W g v vm M Mm pa px x y [px, pa]
  d : ∃ l : List UInt8, l.length = n ∧ Own W B (.slice A n cp) l
  av : ∀ q, (Value.slice A n cp).ownBlock = some q → w.heap.size ≤ q ∧ q < W.heap.size ∧ Avoid g v vm M q ∧ q ≠ pa ∧ q ≠ px
section
variable {w W W' : World} {g : Nat} {v v' vm : Value} {M M' Mm : List Ms} {pa px : Nat} {x : Ac} {y : Ms} {B : Nat} {A : Option Addr} {n cp : Nat}
theorem QW.put {q : Nat} (k : QW w W g v vm M Mm pa px x y B (some ⟨q, 0, none⟩) n cp) (j : Nat) (u : Value)
    (hd : ∃ l : List UInt8, l.length = n ∧ Own (W.setCell ⟨q, j, none⟩ u) B (.slice (some ⟨q, 0, none⟩) n cp) l) : QW w (W.setCell ⟨q, j, none⟩ u) g v vm M Mm pa px x y B (some ⟨q, 0, none⟩) n cp := by
  obtain ⟨h1, h2, h3, h4, h5⟩ := k.av q rfl
  have hs := (k.s.more h1 h2 h3).set (List.mem_cons_self ..) h4 h5 j u
  refine ⟨⟨hs.s.less (fun p hp => List.mem_cons_of_mem _ hp), hs.a, hs.c, k.s.ha, k.s.hx, k.s.ne⟩, hd, fun p hp => ?_⟩
  obtain ⟨a, b, c, d, e⟩ := k.av p hp
  exact ⟨a, by simpa [World.setCell] using b, c, d, e⟩
theorem QW.new_ (k : QW w W g v vm M Mm pa px x y B A n cp) (hb : Below W.heap.size W W') : QW w W' g v vm M Mm pa px x y B A n cp := by
  obtain ⟨l, h1, h2⟩ := k.d
  exact ⟨k.s.new_ hb, ⟨l, h1, h2.new_ hb⟩, fun p hp => by
    obtain ⟨a, b, c, d, e⟩ := k.av p hp
    exact ⟨a, Nat.lt_of_lt_of_le b hb.size, c, d, e⟩⟩
theorem QW.net (k : QW w W g v vm M Mm pa px x y B A n cp) (hN : OwnN W' g v' M') (hG : Grew W W' g v v') (hM : ∀ m ∈ M', m ∈ M ∨ (0 < m.l.length → ∀ b o, m.A = some ⟨b, o, none⟩ → W.heap.size ≤ b)) :
    QW w W' g v' vm M' Mm pa px x y B A n cp := by
  obtain ⟨l, h1, h2⟩ := k.d
  have hloc : ∀ q, (Value.slice A n cp).ownBlock = some q → Avoid g v' vm M' q ∧ W'.heap[q]? = W.heap[q]? := fun q hq => by
    obtain ⟨a, b, c, _, _⟩ := k.av q hq
    obtain ⟨h3, h4⟩ := (k.s.s.more a b c).net hN hG hM
    exact ⟨(h3.loc q (List.mem_cons_self ..)).2.2, h4 q (List.mem_cons_self ..)⟩
  refine ⟨k.s.net hN hG hM, ⟨l, h1, h2.same (fun q hq => (hloc q hq).2)⟩, fun q hq => ?_⟩
  obtain ⟨a, b, _, d, e⟩ := k.av q hq
  exact ⟨a, Nat.lt_of_lt_of_le b hG.size, (hloc q hq).1, d, e⟩
end
theorem MC.put3all {W : World} {p : Nat} {a : Bool} {h : Int} {v : Value} (k : MC W p a h v) (a' : Bool) (h' : Int) (v' : Value) :
    MC (((W.setCell ⟨p, 0, none⟩ (.bool a')).setCell ⟨p, 1, none⟩ (.int .i64 h')).setCell ⟨p, 2, none⟩ v') p a' h' v' := by
  obtain ⟨z0, z1, z2⟩ := k.put3 a' h' v'
  exact ⟨(World.cell?_setCell_other _ _ _ _ (by simp)).trans ((World.cell?_setCell_other _ _ _ _ (by simp)).trans z0), (World.cell?_setCell_other _ _ _ _ (by simp)).trans z1, z2, by rw [World.frozen?_setCell, World.frozen?_setCell, World.frozen?_setCell]; exact k.f0, by rw [World.frozen?_setCell, World.frozen?_setCell, World.frozen?_setCell]; exact k.f1, by rw [World.frozen?_setCell, World.frozen?_setCell, World.frozen?_setCell]; exact k.f2⟩
set_option maxHeartbeats 8000000 in
theorem netPlays_law (A : Option Addr) (n cap : Nat) (L : List Ac) (w : World) (hA : Acts w w.heap.size A L) (hn : L.length = n) :
    Calls Try.prog 7 #[.slice A n cap] w fun e w' => e = .returned (.bool true) ∧ Below w.heap.size w w' := by
  have HA := Lib.hid hA
  have Hn := Lib.hid hn
  clear hA hn
  go_enter Try.func7, Try.ntmps7
  go_wp2_with fail
  refine (awake23_any w).mono ?_
  rintro e w1 ⟨rfl, hB1⟩
  have H1 := Lib.hid hB1
  clear hB1
  by_cases h60 : 60 < n
  · have h60i : (60 : Int) < (n : Int) := by omega
    go_wp2_with fail
    go_ret
    exact ⟨rfl, H1.out⟩
  have h60i : (n : Int) ≤ 60 := by omega
  go_wp2_with fail
  refine (nnew_any w1).mono ?_
  rintro e w2 ⟨rfl, hN2, hB2⟩
  have H2 : Hid (NS w w2 w1.heap.size (.slice none 0 0) (.slice none 0 0) [] [] []) :=
    ⟨hN2, World.ownsRow_nil _ _ _ _, fun x hx => (by cases hx), by simp [Value.ownBlock], fun q e => by simp [Value.ownBlock] at e, fun m hm => (by cases hm), H1.out.trans (hB2.mono H1.out.size), H1.out.size, fun p hp => (by cases hp)⟩
  clear hN2 hB2 H1
  generalize w1.heap.size = g at *
  go_wp2_with fail
  go_loopw [4, 5] (fun vm ix wr => ∃ k : Nat, k ≤ n ∧ ix = .int .i64 k ∧ Hid (PL w wr g k vm)) (fun _ ix _ => n - (intOf ix).toNat)
  case atStart => exact ⟨0, Nat.zero_le _, rfl, _, _, _, H2.out, ⟨rfl, fun m hm => (by cases hm)⟩, Nat.le_refl _⟩
  case round =>
    obtain ⟨k, hk, rfl, hP⟩ := hrel
    obtain ⟨v, M, Mm, hS, hLike, hMk⟩ := hP.out
    obtain ⟨Am, cm, rfl⟩ := row_form3 hS.R
    have HS := Lib.hid hS
    have HL := Lib.hid hLike
    clear hP hS hLike
    by_cases hend : k = n
    · subst hend
      go_wp2_with fail
      go_ret
      exact ⟨rfl, HS.out.b⟩
    have hlt : k < n := by omega
    obtain ⟨b, off, x, rfl, _, hx, ⟨x0, x1, x2, x3, x4, x5⟩, hok⟩ := (HA.out.below HS.out.b).get (k := k) (by rw [Hn.out]; exact hlt)
    have HA0 : Hid (x.ok w w.heap.size) := by
      obtain ⟨b', off', e', _, h'⟩ := HA.out (by rw [Hn.out]; omega)
      exact (h' k x hx).2
    obtain ⟨⟨⟨hk1, hk2⟩, ⟨hi1, hi2⟩, ⟨hkk1, hkk2⟩⟩, _, _, _, hn63⟩ := hok
    clear hx
    go_upto_region 11 with fail
    have HS1 := Lib.hid (HS.out.made (.cells #[.int .i64 x.kind, .int .i64 x.i, .int .i64 x.k, .bool x.m.a, .int .i64 x.m.h, .slice x.m.A x.m.n x.m.c] 62))
    have hAC := AC.made wr x 62
    have Hpa : Hid (wr.heap.size < (wr.alloc (.cells #[.int .i64 x.kind, .int .i64 x.i, .int .i64 x.k, .bool x.m.a, .int .i64 x.m.h, .slice x.m.A x.m.n x.m.c] 62)).heap.size) := show _ < _ by simp
    clear x0 x1 x2 x3 x4 x5 HS H2
    generalize wr.alloc (.cells #[.int .i64 x.kind, .int .i64 x.i, .int .i64 x.k, .bool x.m.a, .int .i64 x.m.h, .slice x.m.A x.m.n x.m.c] 62) = W1 at *
    generalize wr.heap.size = pa at *
    have HAC := Lib.hid hAC
    obtain ⟨a0, a1, a2, a3, a4, a5⟩ := hAC
    by_cases h300 : 300 < x.m.n
    · as_aux_lemma =>
        have h300i : (300 : Int) < (x.m.n : Int) := by omega
        go_wp2_with fail
        go_ret
        exact ⟨rfl, HS1.out.b⟩
    have h300i : (x.m.n : Int) ≤ 300 := by omega
    have hMl : M.length ≤ 60 := by omega
    have HLl := Lib.hid HL.out.len
    have hmm : (Mm.length : Int) ≤ 60 := by have := HLl.out; omega
    obtain ⟨hb, hhb⟩ : ∃ hb : Bool, hb = decide (0 ≤ x.i ∧ x.i < (Mm.length : Int)) := ⟨_, rfl⟩
    have Hhb := Lib.hid hhb
    clear hhb
    go_upto_region 13 with fail
    go_cut [7] from 28 to 248 (fun s7 wx => s7 = .bool hb ∧ wx = W1)
    case first =>
      as_aux_lemma =>
        by_cases hi0 : 0 ≤ x.i
        · by_cases hil : x.i < (Mm.length : Int)
          · have e : hb = true := by rw [Hhb.out]; exact decide_eq_true ⟨hi0, hil⟩
            subst e
            go_wp2_with fail
            go_meet
            case rel => exact ⟨rfl, rfl⟩
          · have e : hb = false := by rw [Hhb.out]; exact decide_eq_false (fun h => hil h.2)
            subst e
            have hil' : (Mm.length : Int) ≤ x.i := by omega
            go_wp2_with fail
            go_meet
            case rel => exact ⟨rfl, rfl⟩
        · have e : hb = false := by rw [Hhb.out]; exact decide_eq_false (fun h => hi0 h.1)
          subst e
          have hi0' : x.i < 0 := by omega
          go_wp2_with fail
          go_meet
          case rel => exact ⟨rfl, rfl⟩
    case rest =>
      obtain ⟨rfl, rfl⟩ := hcut
      go_upto_if 54 with fail
      have hPS : PS w (wc.alloc (.cells #[.bool false, .int .i64 0, .slice none 0 0] 54)) g v (.slice Am Mm.length cm) M Mm pa wc.heap.size x zeroM [wc.heap.size, pa] :=
        ⟨HS1.out.made _, HAC.out.keep ((na (nr wc) _).block pa Hpa.out), MC.made wc false 0 (.slice none 0 0) _, by simp, by simp, Nat.ne_of_lt Hpa.out⟩
      have HPS := Lib.hid hPS
      clear hPS HS1 HAC a0 a1 a2 a3 a4 a5
      generalize wc.alloc (.cells #[.bool false, .int .i64 0, .slice none 0 0] 54) = W2 at *
      generalize wc.heap.size = px at *
      go_cut [] from 28 to 248 (fun wx => Hid (XJ w wx g v (.slice Am Mm.length cm) M Mm pa px x hb))
      case first =>
        as_aux_lemma =>
          cases hb with
          | false =>
            have hno := of_decide_eq_false Hhb.out.symm
            go_wp2_with fail
            go_meet
            case rel => exact ⟨zeroM, HPS.out, fun h => (by cases h), fun _ => ⟨rfl, by omega⟩⟩
          | true =>
            obtain ⟨hi0, hil⟩ := of_decide_eq_true Hhb.out.symm
            obtain ⟨i, hxi⟩ := Int.eq_ofNat_of_zero_le hi0
            have hil' : i < Mm.length := by omega
            obtain ⟨y, hy⟩ : ∃ y, Mm[i]? = some y := ⟨_, List.getElem?_eq_getElem hil'⟩
            obtain ⟨qm, cm', he, _, _⟩ := World.ownsRow.form HPS.out.s.R (by omega)
            injection he with he1 _ he3
            subst he1
            subst he3
            obtain ⟨m0, m1, m2⟩ := row_msg HPS.out.s.R hy
            obtain ⟨b0, b1, b2, b3, b4, b5⟩ := HPS.out.a
            obtain ⟨p0, p1, p2, f0, f1, f2⟩ := HPS.out.c
            have HN : Hid (XJ w (((W2.setCell ⟨px, 0, none⟩ (.bool y.a)).setCell ⟨px, 1, none⟩ (.int .i64 y.h)).setCell ⟨px, 2, none⟩ (.slice y.A y.n y.c)) g v (.slice (some ⟨qm, 0, none⟩) Mm.length cm) M Mm pa px x true) :=
              ⟨y, ⟨((HPS.out.s.set HPS.out.hx 0 _).set HPS.out.hx 1 _).set HPS.out.hx 2 _, HPS.out.a.keep (set3_block _ _ _ _ _ _ _ _ _ HPS.out.ne), HPS.out.c.put3all _ _ _, HPS.out.ha, HPS.out.hx, HPS.out.ne⟩, fun _ => ⟨i, hxi, hy⟩, fun h => (by cases h)⟩
            rw [hxi] at b1
            have hii : (i : Int) < (Mm.length : Int) := by omega
            clear hxi hy
            go_wp2_with fail
            go_meet
            case rel => exact HN
      case rest =>
        obtain ⟨y, hPS, hbt, hbf⟩ := hcut.out
        have HP := Lib.hid hPS
        have HBT := Lib.hid hbt
        have HBF := Lib.hid hbf
        obtain ⟨a0, a1, a2, a3, a4, a5⟩ := hPS.a
        clear hPS hbt hbf hcut HPS
        go_upto_block 2 with fail
        go_cut [4] from 28 to 248 (fun vm' wx => Hid (PL w wx g (k + 1) vm'))
        case first =>
          have hMlt : M.length < 4096 := by omega
          have hx300 : x.m.n ≤ 300 := by omega
          have hLm : Mm.length ≤ 60 := by omega
          by_cases e0 : x.kind = 0
          · as_aux_lemma =>
              rw [e0] at a0
              have Hok := Lib.hid HA0.out
              have HPA := Lib.hid (HP.out.s.less (qs := []) (fun p hp => (by cases hp)))
              have hem := Own.empty wc wc.heap.size (Nat.le_refl _)
              have hbx : Hid (Bytes (wc.alloc (.cells #[] 5)) (wc.alloc (.cells #[] 5)).heap.size x.m.A x.m.l) := bytes_new ((Hok.out.2.1.below HP.out.s.b).more HP.out.s.b.size) (na (nr wc) _)
              have hml : Hid (x.m.l.length = x.m.n) := Hok.out.2.2.1
              have HPe := HP.out.new_ (na (nr wc) (.cells #[] 5))
              obtain ⟨a0, a1, a2, a3, a4, a5⟩ := HPe.a
              rw [e0] at a0
              go_wp2_with (at_builtin; go_loud (refine wpList_append_bytes_form rfl (.tmp 64) (.tmp 67) rfl wc.heap.size (.slice (some ⟨wc.heap.size, 0, none⟩) 0 0) [] rfl hem _ x.m.A x.m.c x.m.l (congrArg (fun q => Value.slice x.m.A q x.m.c) hml.out.symm) hbx.out (by have := hml.out; simp; omega) (by simp) ?_); intro A2 c2 w3 ho2 hg2 hat2; rw [List.nil_append] at ho2 hat2; rw [hml.out] at ho2 hat2; have hb3 : Below wc.heap.size wc w3 := (na (nr wc) (.cells #[] 5)).grown hg2 (by simp) (fun q e => by simp [Value.ownBlock] at e; omega); have H3 := Lib.hid (And.intro ho2 hb3); obtain ⟨a0, a1, a2, a3, a4, a5⟩ := (HP.out.new_ hb3).a; clear ho2 hg2 hat2 hb3)
              have HP3 := Lib.hid (HP.out.new_ H3.out.2)
              have hnil : A2 = none → c2 = 0 := own_nil H3.out.1
              have Hnil := Lib.hid hnil
              clear hnil hem HPe
              have hA2 : Hid (Bytes w3 w3.heap.size A2 x.m.l) := H3.out.1.bytes.1
              have hsz3 : Hid (wc.heap.size ≤ w3.heap.size) := H3.out.2.size
              have hQ3 : Hid (QW w w3 g v (.slice Am Mm.length cm) M Mm pa px x y wc.heap.size A2 x.m.n c2) :=
                ⟨⟨HP3.out.s, HP3.out.a, HP3.out.c, HP3.out.ha, HP3.out.hx, HP3.out.ne⟩, ⟨x.m.l, hml.out, H3.out.1⟩, fun q hq => by
                  have h1 := World.ownsRow.lt H3.out.1 q hq
                  have h2 := (HP.out.s.loc pa HP.out.ha).2.1
                  have h3 := (HP.out.s.loc px HP.out.hx).2.1
                  exact ⟨Nat.le_trans HP.out.s.b.size h1.1, h1.2, HP.out.s.avoid h1.1, by omega, by omega⟩⟩
              cases hr : rightS x.m.a x.m.h x.m.n with
              | true =>
                as_aux_lemma =>
                  refine (nsend_fresh g v M x.m.a x.m.h A2 x.m.n c2 x.m.l w3 HP3.out.s.N hA2.out hml.out Hnil.out hMlt hr (by omega)).mono ?_
                  rintro e w4 ⟨rfl, v4, A4, c4, hN4, hG4, hf4⟩
                  have HQ := Lib.hid (hQ3.out.net hN4 hG4 (fun z hz => by
                    rcases List.mem_append.1 hz with hz | hz
                    · exact .inl hz
                    · obtain rfl := List.mem_singleton.1 hz
                      exact .inr hf4))
                  clear hN4 hG4 hf4
                  go_wp2_with fail
                  go_loopw [11] (fun ix wq => ∃ j : Nat, j ≤ x.m.n ∧ ix = .int .i64 j ∧ Hid (QW w wq g v4 (.slice Am Mm.length cm) (M ++ [⟨x.m.a, x.m.h, A4, x.m.n, c4, x.m.l⟩]) Mm pa px x y wc.heap.size A2 x.m.n c2)) (fun ix _ => x.m.n - (intOf ix).toNat)
                  case atStart => exact ⟨0, Nat.zero_le _, rfl, HQ⟩
                  case round =>
                    obtain ⟨j, hj, rfl, hQ⟩ := hrel
                    by_cases hje : j = x.m.n
                    · as_aux_lemma =>
                        have hji : ¬ (j : Int) < (x.m.n : Int) := by omega
                        clear hje
                        obtain ⟨_, _, _, a3, a4, a5⟩ := hQ.out.s.a
                        go_wp2_with fail
                        refine (rright_any x.m.a x.m.h x.m.A x.m.n x.m.c _ (by omega)).mono ?_
                        rintro e w5 ⟨rfl, hb5⟩
                        rw [hr]
                        have HQ5 := Lib.hid (hQ.out.new_ hb5)
                        clear hb5 hQ a3 a4 a5
                        obtain ⟨_, _, _, a3, a4, a5⟩ := HQ5.out.s.a
                        have HP6 := Lib.hid (HQ5.out.s.made (.cells #[.bool x.m.a, .int .i64 x.m.h, .slice x.m.A x.m.n x.m.c] 54))
                        have hnews := msg_news w5 x.m.a x.m.h (.slice x.m.A x.m.n x.m.c)
                        go_wp2_with (at_builtin; go_loud (refine wpList_append_msgs rfl (.tmp 99) (.tmp 102) rfl w.heap.size (.slice Am Mm.length cm) Mm.length Mm rfl HP6.out.s.R ⟨w5.heap.size, 0, none⟩ 1 1 [x.m] rfl rfl hnews (Mm.length + 1) rfl (by omega) HP6.out.s.b.size ?_); intro A7 c7 w7 h7 hg7 hat7; have H7 := Lib.hid (And.intro h7 (And.intro hg7 hat7)); clear h7 hg7 hat7)
                        go_meet
                        case rel =>
                          have hG := HP6.out.grow (Mm' := Mm ++ [x.m]) (by rw [List.length_append]; exact H7.out.1) H7.out.2.1 H7.out.2.2 (fun z hz => by
                            rcases List.mem_append.1 hz with hz | hz
                            · exact HP6.out.s.D z hz
                            · obtain rfl := List.mem_singleton.1 hz
                              exact ⟨Hok.out.2.1, Hok.out.2.2.1, Hok.out.2.2.2.1, hx300⟩)
                          exact ⟨v4, _, Mm ++ [x.m], hG.s.less (fun p hp => (by cases hp)), HL.out.snoc (m := ⟨x.m.a, x.m.h, A4, x.m.n, c4, x.m.l⟩) rfl ⟨hx300, hr, hml.out⟩, by rw [List.length_append]; simp; omega⟩
                    · as_aux_lemma =>
                        have hji : (j : Int) < (x.m.n : Int) := by omega
                        have hjl : j < x.m.n := by omega
                        obtain ⟨l', hl', ho'⟩ := hQ.out.d
                        obtain ⟨q, c', hv, _, hqs⟩ := World.ownsRow.form ho' (by omega)
                        injection hv with hv1 hv2 hv3
                        clear hv2
                        subst hv1
                        subst hv3
                        have ho2 : Own wr wc.heap.size (.slice (some ⟨q, 0, none⟩) l'.length c2) l' := by rw [hl']; exact ho'
                        obtain ⟨z, hz⟩ : ∃ z, l'[j]? = some z := ⟨_, List.getElem?_eq_getElem (by omega)⟩
                        have hc := ho2.cell hz
                        have hf := ho2.free j
                        have hset := ho2.set_ j (z + 1)
                        rw [List.length_set, hl'] at hset
                        have HN : Hid (QW w (wr.setCell ⟨q, j, none⟩ (B8 (z + 1))) g v4 (.slice Am Mm.length cm) (M ++ [⟨x.m.a, x.m.h, A4, x.m.n, c4, x.m.l⟩]) Mm pa px x y wc.heap.size (some ⟨q, 0, none⟩) x.m.n c2) :=
                          hQ.out.put j _ ⟨l'.set j (z + 1), by rw [List.length_set]; exact hl', hset⟩
                        have hz8 : ((z.toNat : Int) + 1) % 256 = ((z + 1).toNat : Int) := by rw [UInt8.toNat_add]; simp
                        have Hz8 := Lib.hid hz8
                        clear ho' ho2 hset hQ hz hl' hz8
                        go_wp2_with fail
                        exact ⟨⟨j + 1, by omega, by go_num, by rw [Hz8.out]; exact HN⟩, by simp [intOf]; omega⟩
              | false =>
                as_aux_lemma =>
                  refine (nsend_no g v M x.m.a x.m.h A2 x.m.n c2 w3 HP3.out.s.N (by omega) (.inr hr)).mono ?_
                  rintro e w4 ⟨rfl, hN4, hb4⟩
                  have HQ := Lib.hid (hQ3.out.new_ hb4)
                  clear hN4 hb4
                  go_wp2_with fail
                  go_loopw [11] (fun ix wq => ∃ j : Nat, j ≤ x.m.n ∧ ix = .int .i64 j ∧ Hid (QW w wq g v (.slice Am Mm.length cm) M Mm pa px x y wc.heap.size A2 x.m.n c2)) (fun ix _ => x.m.n - (intOf ix).toNat)
                  case atStart => exact ⟨0, Nat.zero_le _, rfl, HQ⟩
                  case round =>
                    obtain ⟨j, hj, rfl, hQ⟩ := hrel
                    by_cases hje : j = x.m.n
                    · as_aux_lemma =>
                        have hji : ¬ (j : Int) < (x.m.n : Int) := by omega
                        clear hje
                        obtain ⟨_, _, _, a3, a4, a5⟩ := hQ.out.s.a
                        go_wp2_with fail
                        refine (rright_any x.m.a x.m.h x.m.A x.m.n x.m.c _ (by omega)).mono ?_
                        rintro e w5 ⟨rfl, hb5⟩
                        rw [hr]
                        have HQ5 := Lib.hid (hQ.out.new_ hb5)
                        clear hb5 hQ a3 a4 a5
                        obtain ⟨_, _, _, a3, a4, a5⟩ := HQ5.out.s.a
                        go_wp2_with fail
                        go_meet
                        case rel => exact ⟨v, M, Mm, HQ5.out.s.s.less (fun p hp => (by cases hp)), HL.out, by omega⟩
                    · as_aux_lemma =>
                        have hji : (j : Int) < (x.m.n : Int) := by omega
                        have hjl : j < x.m.n := by omega
                        obtain ⟨l', hl', ho'⟩ := hQ.out.d
                        obtain ⟨q, c', hv, _, hqs⟩ := World.ownsRow.form ho' (by omega)
                        injection hv with hv1 hv2 hv3
                        clear hv2
                        subst hv1
                        subst hv3
                        have ho2 : Own wr wc.heap.size (.slice (some ⟨q, 0, none⟩) l'.length c2) l' := by rw [hl']; exact ho'
                        obtain ⟨z, hz⟩ : ∃ z, l'[j]? = some z := ⟨_, List.getElem?_eq_getElem (by omega)⟩
                        have hc := ho2.cell hz
                        have hf := ho2.free j
                        have hset := ho2.set_ j (z + 1)
                        rw [List.length_set, hl'] at hset
                        have HN : Hid (QW w (wr.setCell ⟨q, j, none⟩ (B8 (z + 1))) g v (.slice Am Mm.length cm) M Mm pa px x y wc.heap.size (some ⟨q, 0, none⟩) x.m.n c2) :=
                          hQ.out.put j _ ⟨l'.set j (z + 1), by rw [List.length_set]; exact hl', hset⟩
                        have hz8 : ((z.toNat : Int) + 1) % 256 = ((z + 1).toNat : Int) := by rw [UInt8.toNat_add]; simp
                        have Hz8 := Lib.hid hz8
                        clear ho' ho2 hset hQ hz hl' hz8
                        go_wp2_with fail
                        exact ⟨⟨j + 1, by omega, by go_num, by rw [Hz8.out]; exact HN⟩, by simp [intOf]; omega⟩
          have b0 : (x.kind == 0) = false := by rw [beq_eq_false_iff_ne]; exact e0
          by_cases e1 : x.kind = 1
          · as_aux_lemma =>
              rw [e1] at a0
              cases hb with
              | false =>
                obtain ⟨hyz, hno⟩ := HBF.out rfl
                have hno' : x.i < 0 ∨ (M.length : Int) ≤ x.i := by have := HLl.out; omega
                have Hno := Lib.hid hno'
                clear hno hno'
                subst hyz
                go_wp2_with fail
                refine (ntake_no g v M x.i _ HP.out.s.N Hno.out).mono ?_
                rintro e w3 ⟨rfl, hb3⟩
                have HP3 := Lib.hid (HP.out.new_ (hb3.trans ((na (nr w3) (.cells #[.bool false, .int .i64 0, .slice none 0 0] 54)).mono hb3.size)))
                have hMC := MC.made w3 false 0 (.slice none 0 0) 54
                clear hb3 a0 a1 a2 a3 a4 a5
                obtain ⟨p0, p1, p2, _, _, _⟩ := HP3.out.c
                obtain ⟨q0, q1, q2, _, _, _⟩ := hMC
                simp only [zeroM] at p0 p1 p2
                go_wp2_with fail
                refine (rsame_any false false 0 0 none none 0 0 0 0 [] [] _ (Bytes.nil_ _) rfl (Bytes.nil_ _) rfl).mono ?_
                rintro e w4 ⟨rfl, hb4⟩
                have HP4 := Lib.hid (HP3.out.new_ hb4)
                clear hb4
                rw [show sameS false false 0 0 [] [] = true from rfl]
                go_wp2_with fail
                go_meet
                case rel => exact ⟨v, M, Mm, HP4.out.s.less (fun p hp => (by cases hp)), HL.out, by omega⟩
              | true =>
                obtain ⟨i, hxi, hy⟩ := HBT.out rfl
                obtain ⟨m, hm, hkey⟩ := HL.out.get hy
                have hmn := HL.out.2 m (List.mem_of_getElem? hm)
                have hDy := HP.out.s.D y (List.mem_of_getElem? hy)
                rw [hxi] at a1
                have hil : i < Mm.length := (List.getElem?_eq_some_iff.1 hy).1
                have HM := Lib.hid (And.intro hm (And.intro hkey (And.intro hmn hDy)))
                have Hxi := Lib.hid hxi
                clear hxi hy hm hkey hmn hDy
                obtain ⟨qm, cm', he, _, _⟩ := World.ownsRow.form HP.out.s.R (by omega)
                injection he with he1 _ he3
                subst he1
                subst he3
                go_wp2_with fail
                refine (ntake_yes g i v M m _ HP.out.s.N HM.out.1 (by have := HM.out.2.2.1.1; omega)).mono ?_
                rintro e w3 ⟨A3, c3, v3, rfl, hN3, hG3, hby3, hc3⟩
                have HP3 := Lib.hid ((HP.out.net hN3 hG3 (fun z hz => .inl (mem_less hz))).new_ (na (nr w3) (.cells #[.bool m.a, .int .i64 m.h, .slice A3 m.n c3] 54)))
                have hMC := MC.made w3 m.a m.h (.slice A3 m.n c3) 54
                have HB3 := Lib.hid (bytes_new hby3 (na (nr w3) (.cells #[.bool m.a, .int .i64 m.h, .slice A3 m.n c3] 54)))
                clear hN3 hG3 hby3 hc3 a0 a1 a2 a3 a4 a5
                obtain ⟨p0, p1, p2, _, _, _⟩ := HP3.out.c
                obtain ⟨q0, q1, q2, _, _, _⟩ := hMC
                go_wp2_with fail
                refine (rsame_any y.a m.a y.h m.h y.A A3 y.n y.c m.n c3 y.l m.l _ ((HM.out.2.2.2.1.below HP3.out.s.b).more HP3.out.s.b.size) HM.out.2.2.2.2.1 HB3.out HM.out.2.2.1.2.2).mono ?_
                rintro e w4 ⟨rfl, hb4⟩
                rw [same_key HM.out.2.1]
                have HP4 := Lib.hid (HP3.out.new_ hb4)
                clear hb4 p0 p1 p2 q0 q1 q2
                obtain ⟨_, a1, _, _, _, _⟩ := HP4.out.a
                rw [Hxi.out] at a1
                have hrow := rowsM_own HP4.out.s.R
                have hcap := row_cap HP4.out.s.R
                go_wp2_with fail
                refine (rwithout_any _ Mm.length cm i Mm _ hrow rfl hil hcap.1 hcap.2 (by omega)).mono ?_
                rintro e w5 ⟨A5, c5, rfl, hR5, hb5⟩
                have HN5 := Lib.hid (HP4.out.s.fresh hb5 hR5 (fun z hz => mem_less hz))
                obtain ⟨N5, hN5⟩ : ∃ N5, Mm.take i ++ Mm.drop (i + 1) = N5 := ⟨_, rfl⟩
                rw [hN5] at HN5 ⊢
                have HE5 := Lib.hid hN5
                clear hR5 hb5 hrow hN5
                go_wp2_with fail
                go_meet
                case rel => exact ⟨v3, _, _, HN5.out.less (fun p hp => (by cases hp)), HE5.out ▸ HL.out.without i, by rw [List.length_append, List.length_take, List.length_drop]; omega⟩
          have b1 : (x.kind == 1) = false := by rw [beq_eq_false_iff_ne]; exact e1
          by_cases e2 : x.kind = 2
          · as_aux_lemma =>
              rw [e2] at a0
              obtain ⟨p0, p1, p2, f0, f1, f2⟩ := HP.out.c
              cases hb with
              | false =>
                obtain ⟨_, hno⟩ := HBF.out rfl
                have hno' : x.i < 0 ∨ (M.length : Int) ≤ x.i := by have := HLl.out; omega
                go_wp2_with fail
                refine (ndouble_no g v M x.i _ HP.out.s.N hno').mono ?_
                rintro e w3 ⟨rfl, rfl⟩
                go_wp2_with fail
                go_meet
                case rel => exact ⟨v, M, Mm, HP.out.s.less (fun p hp => (by cases hp)), HL.out, by omega⟩
              | true =>
                obtain ⟨i, hxi, hy⟩ := HBT.out rfl
                obtain ⟨m, hm, hkey⟩ := HL.out.get hy
                have hmn := HL.out.2 m (List.mem_of_getElem? hm)
                have hDy := HP.out.s.D y (List.mem_of_getElem? hy)
                rw [hxi] at a1
                have HM := Lib.hid (And.intro hm (And.intro hkey (And.intro hmn hDy)))
                clear hxi hy hm hkey hmn hDy
                go_wp2_with fail
                refine (ndouble_fresh g v M i m _ HP.out.s.N HM.out.1 (by have := HM.out.2.2.1.1; omega) hMlt HM.out.2.2.1.2.1).mono ?_
                rintro e w3 ⟨rfl, v3, A3, c3, hN3, hG3, hf3⟩
                have HP3 := Lib.hid (HP.out.net hN3 hG3 (fun z hz => by
                  rcases List.mem_append.1 hz with hz | hz
                  · exact .inl hz
                  · obtain rfl := List.mem_singleton.1 hz
                    exact .inr hf3))
                clear hN3 hG3 hf3 p0 p1 p2 f0 f1 f2 a0 a1 a2 a3 a4 a5
                obtain ⟨p0, p1, p2, _, _, _⟩ := HP3.out.c
                have HP4 := Lib.hid (HP3.out.made (.cells #[.bool y.a, .int .i64 y.h, .slice y.A y.n y.c] 54))
                have hnews := msg_news w3 y.a y.h (.slice y.A y.n y.c)
                go_wp2_with (at_builtin; go_loud (refine wpList_append_msgs rfl (.tmp 136) (.tmp 138) rfl w.heap.size (.slice Am Mm.length cm) Mm.length Mm rfl HP4.out.s.R ⟨w3.heap.size, 0, none⟩ 1 1 [y] rfl rfl hnews (Mm.length + 1) rfl (by omega) HP4.out.s.b.size ?_); intro A4 c4 w4 h4 hg4 hat4; have H4 := Lib.hid (And.intro h4 (And.intro hg4 hat4)); clear h4 hg4 hat4)
                go_meet
                case rel =>
                  have hG := HP4.out.grow (Mm' := Mm ++ [y]) (by rw [List.length_append]; exact H4.out.1) H4.out.2.1 H4.out.2.2 (fun z hz => by
                    rcases List.mem_append.1 hz with hz | hz
                    · exact HP4.out.s.D z hz
                    · obtain rfl := List.mem_singleton.1 hz
                      exact HM.out.2.2.2)
                  exact ⟨v3, _, Mm ++ [y], hG.s.less (fun p hp => (by cases hp)), HL.out.snoc HM.out.2.1 HM.out.2.2.1, by rw [List.length_append]; simp; omega⟩
          have b2 : (x.kind == 2) = false := by rw [beq_eq_false_iff_ne]; exact e2
          by_cases e3 : x.kind = 3
          · as_aux_lemma =>
              rw [e3] at a0
              cases hb with
              | false =>
                obtain ⟨_, hno⟩ := HBF.out rfl
                have hno' : (x.i < 0 ∨ (M.length : Int) ≤ x.i) ∨ (x.k < 0 ∨ (M.length : Int) ≤ x.k) := by have := HLl.out; omega
                have Hno := Lib.hid hno'
                clear hno hno'
                go_wp2_with fail
                refine (nturn_no g v M x.i x.k _ HP.out.s.N Hno.out).mono ?_
                rintro e w3 ⟨rfl, rfl⟩
                go_wp2_with fail
                go_meet
                case rel => exact ⟨v, M, Mm, HP.out.s.less (fun p hp => (by cases hp)), HL.out, by omega⟩
              | true =>
                obtain ⟨i, hxi, hy⟩ := HBT.out rfl
                obtain ⟨m, hm, hkey⟩ := HL.out.get hy
                rw [hxi] at a1
                have HM := Lib.hid (And.intro hm (And.intro hkey hy))
                have hil : i < Mm.length := (List.getElem?_eq_some_iff.1 hy).1
                have Hxi := Lib.hid hxi
                clear hxi hy hm hkey
                by_cases hkin : 0 ≤ x.k ∧ x.k < (Mm.length : Int)
                · as_aux_lemma =>
                    obtain ⟨hk0, hkl⟩ := hkin
                    obtain ⟨j, hxj⟩ := Int.eq_ofNat_of_zero_le hk0
                    rw [hxj] at a2 hkl hk0
                    obtain ⟨y2, hy2⟩ : ∃ y2, Mm[j]? = some y2 := ⟨_, List.getElem?_eq_getElem (by omega)⟩
                    obtain ⟨m2, hm2, hkey2⟩ := HL.out.get hy2
                    have HM2 := Lib.hid (And.intro hm2 (And.intro hkey2 hy2))
                    have Hxj := Lib.hid hxj
                    clear hxj hy2 hm2 hkey2
                    obtain ⟨qm, cm', he, _, _⟩ := World.ownsRow.form HP.out.s.R (by omega)
                    injection he with he1 _ he3
                    subst he1
                    subst he3
                    go_wp2_with fail
                    refine (nturn_yes g v M i j m m2 _ HP.out.s.N HM.out.1 HM2.out.1).mono ?_
                    rintro e w3 ⟨rfl, hN3, hG3⟩
                    have HP3 := Lib.hid (HP.out.net hN3 hG3 (fun z hz => by
                      refine .inl ?_
                      rcases List.mem_or_eq_of_mem_set hz with hz | rfl
                      · rcases List.mem_or_eq_of_mem_set hz with hz | rfl
                        · exact hz
                        · exact List.mem_of_getElem? HM2.out.1
                      · exact List.mem_of_getElem? HM.out.1))
                    clear hN3 hG3 a0 a1 a2 a3 a4 a5
                    obtain ⟨_, a1, a2, _, _, _⟩ := HP3.out.a
                    rw [Hxi.out] at a1
                    rw [Hxj.out] at a2
                    have hrow := rowsM_own HP3.out.s.R
                    have hcap := row_cap HP3.out.s.R
                    go_wp2_with fail
                    refine (rturned_any _ Mm.length cm i j Mm y y2 _ hrow rfl HM.out.2.2 HM2.out.2.2 (by omega)).mono ?_
                    rintro e w4 ⟨A4, c4, rfl, hR4, hb4⟩
                    have hlen4 : ((Mm.set i y2).set j y).length = Mm.length := by rw [List.length_set, List.length_set]
                    have HN4 := Lib.hid (HP3.out.s.fresh hb4 hR4 (fun z hz => by
                      rcases List.mem_or_eq_of_mem_set hz with hz | rfl
                      · rcases List.mem_or_eq_of_mem_set hz with hz | rfl
                        · exact hz
                        · exact List.mem_of_getElem? HM2.out.2.2
                      · exact List.mem_of_getElem? HM.out.2.2))
                    obtain ⟨N4, hN4⟩ : ∃ N4, (Mm.set i y2).set j y = N4 := ⟨_, rfl⟩
                    rw [hN4] at HN4 ⊢
                    have HE4 := Lib.hid hN4
                    clear hR4 hb4 hrow hN4 hlen4
                    go_wp2_with fail
                    go_meet
                    case rel => exact ⟨v, _, _, HN4.out.less (fun p hp => (by cases hp)), HE4.out ▸ HL.out.turned HM.out.1 HM2.out.1 HM.out.2.1 HM2.out.2.1, by rw [List.length_set, List.length_set]; omega⟩
                · as_aux_lemma =>
                    have hno' : (((i : Int) < 0 ∨ (M.length : Int) ≤ (i : Int)) ∨ (x.k < 0 ∨ (M.length : Int) ≤ x.k)) := by have := HLl.out; omega
                    have Hno := Lib.hid hno'
                    clear hno'
                    by_cases hk0 : 0 ≤ x.k
                    · have hkl : (Mm.length : Int) ≤ x.k := by omega
                      clear hkin
                      go_wp2_with fail
                      refine (nturn_no g v M i x.k _ HP.out.s.N Hno.out).mono ?_
                      rintro e w3 ⟨rfl, rfl⟩
                      go_wp2_with fail
                      go_meet
                      case rel => exact ⟨v, M, Mm, HP.out.s.less (fun p hp => (by cases hp)), HL.out, by omega⟩
                    · have hk0' : x.k < 0 := by omega
                      clear hkin
                      go_wp2_with fail
                      refine (nturn_no g v M i x.k _ HP.out.s.N Hno.out).mono ?_
                      rintro e w3 ⟨rfl, rfl⟩
                      go_wp2_with fail
                      go_meet
                      case rel => exact ⟨v, M, Mm, HP.out.s.less (fun p hp => (by cases hp)), HL.out, by omega⟩
          have b3 : (x.kind == 3) = false := by rw [beq_eq_false_iff_ne]; exact e3
          by_cases e4 : x.kind = 4
          · as_aux_lemma =>
              rw [e4] at a0
              cases hb with
              | false =>
                obtain ⟨hyz, hno⟩ := HBF.out rfl
                have hno' : x.i < 0 ∨ (M.length : Int) ≤ x.i := by have := HLl.out; omega
                have Hno := Lib.hid hno'
                clear hno hno'
                go_wp2_with fail
                refine (nlook_no g v M x.i _ HP.out.s.N Hno.out).mono ?_
                rintro e w3 ⟨rfl, hb3⟩
                have HP3 := Lib.hid (HP.out.new_ (hb3.trans ((na (nr w3) (.cells #[.bool false, .int .i64 0, .slice none 0 0] 54)).mono hb3.size)))
                have hMC := MC.made w3 false 0 (.slice none 0 0) 54
                clear hb3 a0 a1 a2 a3 a4 a5
                obtain ⟨q0, q1, q2, _, _, _⟩ := hMC
                go_wp2_with fail
                go_loopw [17] (fun ix wq => ix = .int .i64 0 ∧ wq = w3.alloc (.cells #[.bool false, .int .i64 0, .slice none 0 0] 54)) (fun _ _ => 0)
                case atStart => exact ⟨rfl, rfl⟩
                case round =>
                  obtain ⟨rfl, rfl⟩ := hrel
                  go_wp2_with fail
                  go_meet
                  case rel => exact ⟨v, M, Mm, HP3.out.s.less (fun p hp => (by cases hp)), HL.out, by omega⟩
              | true =>
                obtain ⟨i, hxi, hy⟩ := HBT.out rfl
                obtain ⟨m, hm, hkey⟩ := HL.out.get hy
                have hmn := HL.out.2 m (List.mem_of_getElem? hm)
                rw [hxi] at a1
                have HM := Lib.hid (And.intro hm hmn)
                clear hxi hy hm hkey hmn
                go_wp2_with fail
                refine (nlook_yes g v M i m _ HP.out.s.N HM.out.1 (by have := HM.out.2.1; omega)).mono ?_
                rintro e w3 ⟨A3, c3, rfl, ho3, hb3⟩
                rw [HM.out.2.2.2] at ho3
                have hb3' := hb3.trans ((na (nr w3) (.cells #[.bool m.a, .int .i64 m.h, .slice A3 m.n c3] 54)).mono hb3.size)
                have hO := ho3.alloc (.cells #[.bool m.a, .int .i64 m.h, .slice A3 m.n c3] 54)
                have hMC := MC.made w3 m.a m.h (.slice A3 m.n c3) 54
                have hnl : m.n ≤ 300 := HM.out.2.1
                have hps : Hid (wc.heap.size ≤ w3.heap.size) := hb3.size
                have HPA := Lib.hid (HP.out.s.less (qs := []) (fun p hp => (by cases hp)))
                have hY : Hid (YW w wc (w3.alloc (.cells #[.bool m.a, .int .i64 m.h, .slice A3 m.n c3] 54)) g v (.slice Am Mm.length cm) M Mm w3.heap.size m.a m.h A3 m.n c3) :=
                  ⟨HPA.out.new_ hb3', hMC, ⟨m.l, HM.out.2.2.2, hO⟩, fun q e => (World.ownsRow.lt ho3 q e).2, fun q hq => HPA.out.avoid hq, HPA.out.b.size⟩
                clear ho3 hb3 hb3' hO hMC a0 a1 a2 a3 a4 a5
                go_upto_region 48 with fail
                generalize w3.alloc (.cells #[.bool m.a, .int .i64 m.h, .slice A3 m.n c3] 54) = W4 at *
                generalize w3.heap.size = py at *
                go_wp2_with fail
                go_loopw [17] (fun ix wq => ∃ j : Nat, j ≤ m.n ∧ ix = .int .i64 j ∧ Hid (YW w wc wq g v (.slice Am Mm.length cm) M Mm py m.a m.h A3 m.n c3)) (fun ix _ => m.n - (intOf ix).toNat)
                case atStart => exact ⟨0, Nat.zero_le _, rfl, hY⟩
                case round =>
                  obtain ⟨j, hj, rfl, hQ⟩ := hrel
                  obtain ⟨q0, q1, q2, _, _, _⟩ := hQ.out.c
                  by_cases hje : j = m.n
                  · as_aux_lemma =>
                      have hji : ¬ (j : Int) < (m.n : Int) := by omega
                      clear hje
                      go_wp2_with fail
                      go_meet
                      case rel => exact ⟨v, M, Mm, hQ.out.s, HL.out, by omega⟩
                  · as_aux_lemma =>
                      have hji : (j : Int) < (m.n : Int) := by omega
                      have hjl : j < m.n := by omega
                      obtain ⟨l', hl', ho'⟩ := hQ.out.d
                      obtain ⟨q, c', hv, _, hqs⟩ := World.ownsRow.form ho' (by omega)
                      injection hv with hv1 hv2 hv3
                      clear hv2
                      subst hv1
                      subst hv3
                      have ho2 : Own wr wc.heap.size (.slice (some ⟨q, 0, none⟩) l'.length c3) l' := by rw [hl']; exact ho'
                      obtain ⟨z, hz⟩ : ∃ z, l'[j]? = some z := ⟨_, List.getElem?_eq_getElem (by omega)⟩
                      have hc := ho2.cell hz
                      have hf := ho2.free j
                      have hset := ho2.set_ j (z + 1)
                      rw [List.length_set, hl'] at hset
                      have hqp : q ≠ py := Nat.ne_of_lt (hQ.out.lt q rfl)
                      have HN : Hid (YW w wc (wr.setCell ⟨q, j, none⟩ (B8 (z + 1))) g v (.slice Am Mm.length cm) M Mm py m.a m.h (some ⟨q, 0, none⟩) m.n c3) :=
                        hQ.out.put (World.ownsRow.lt ho' q rfl).1 hqs hqp j _ ⟨l'.set j (z + 1), by rw [List.length_set]; exact hl', hset⟩
                      have hz8 : ((z.toNat : Int) + 1) % 256 = ((z + 1).toNat : Int) := by rw [UInt8.toNat_add]; simp
                      clear ho' ho2 hset hQ hz hl'
                      go_wp2_with fail
                      go_region
                      all_goals (
                        go_wp2_with fail
                        go_roundw
                        case rel => exact ⟨j + 1, by omega, by go_num, HN.out.new_ (nd (nr _))⟩
                        case measure => simp [intOf]; omega)
          have b4 : (x.kind == 4) = false := by rw [beq_eq_false_iff_ne]; exact e4
          as_aux_lemma =>
            go_wp2_with fail
            go_meet
            case rel => exact ⟨v, M, Mm, HP.out.s.less (fun p hp => (by cases hp)), HL.out, by omega⟩
        case rest =>
          obtain ⟨v', M', Mm', hS', hL', hlen'⟩ := hcut.out
          obtain ⟨Ar, cr, rfl⟩ := row_form3 hS'.R
          have HR := Lib.hid hS'
          have HLr := Lib.hid hL'
          have HLc := Lib.hid hL'.len
          have hml : Mm'.length ≤ 61 := by have := hL'.len; omega
          clear hS' hL' hcut HP HBT HBF a0 a1 a2 a3 a4 a5
          go_wp2_with fail
          go_loopw [18, 19] (fun ac ix wq => ∃ j : Nat, j ≤ Mm'.length ∧ ix = .int .i64 j ∧ ac = .int .i64 (countM true (Mm'.take j) : Nat) ∧ Hid (NS w wq g v' (.slice Ar Mm'.length cr) M' Mm' [])) (fun _ ix _ => Mm'.length - (intOf ix).toNat)
          case atStart => exact ⟨0, Nat.zero_le _, rfl, rfl, HR⟩
          case round =>
            obtain ⟨j, hj, rfl, rfl, hQ⟩ := hrel
            by_cases hje : j = Mm'.length
            · as_aux_lemma =>
                have hct := Lib.hid (show countM true (Mm'.take j) = countM true M' by rw [hje, List.take_length, HLr.out.count])
                have hcf := Lib.hid (show countM false M' + countM true M' = Mm'.length by rw [count_not, HLc.out])
                rw [hct.out]
                have hji : ¬ (j : Int) < (Mm'.length : Int) := by omega
                clear hje
                obtain ⟨cT, hcT⟩ : ∃ c, countM true M' = c := ⟨_, rfl⟩
                obtain ⟨cF, hcF⟩ : ∃ c, countM false M' = c := ⟨_, rfl⟩
                rw [hcT, hcF] at hcf
                rw [hcT]
                have HcT := Lib.hid hcT
                have HcF := Lib.hid hcF
                clear hcT hcF
                obtain ⟨A0, c0, hv0⟩ := OwnN.form hQ.out.N
                go_wp2_with fail
                refine (nlen_any g A0 M'.length c0 _ (by rw [← hv0]; exact hQ.out.N.c)).mono ?_
                rintro e w' ⟨rfl, rfl⟩
                rw [HLc.out]
                go_wp2_with fail
                refine (ncount_any g v' M' true _ hQ.out.N).mono ?_
                rintro e wA ⟨rfl, hbA⟩
                rw [HcT.out]
                have hQA := Lib.hid (hQ.out.new_ hbA)
                clear hbA hQ hv0
                go_wp2_with fail
                refine (ncount_any g v' M' false _ hQA.out.N).mono ?_
                rintro e wB ⟨rfl, hbB⟩
                rw [HcF.out]
                have hQB := Lib.hid (hQA.out.new_ hbB)
                clear hbB hQA
                have hsub : (Mm'.length : Int) - (cT : Int) = (cF : Int) := by have := hcf.out; omega
                have hcTl : cT ≤ 61 := by have := hcf.out; omega
                go_wp2_with fail
                exact ⟨⟨k + 1, by omega, by go_num, _, _, _, hQB.out, HLr.out, hlen'⟩, by simp [intOf]; omega⟩
            · as_aux_lemma =>
                have hjl : j < Mm'.length := by omega
                have hji : (j : Int) < (Mm'.length : Int) := by omega
                obtain ⟨y', hy⟩ : ∃ y', Mm'[j]? = some y' := ⟨_, List.getElem?_eq_getElem hjl⟩
                obtain ⟨mj, hmj, hkey⟩ := HLr.out.get hy
                have hmn := HLr.out.2 mj (List.mem_of_getElem? hmj)
                have hDy := hQ.out.D y' (List.mem_of_getElem? hy)
                obtain ⟨qm, cm', he, _, _⟩ := World.ownsRow.form hQ.out.R (by omega)
                injection he with he1 _ he3
                subst he1
                subst he3
                have Hcn : Hid (countM true (Mm'.take (j + 1)) = countM true (Mm'.take j) + (if y'.a == true then 1 else 0)) := show _ = _ by
                  unfold countM
                  rw [List.take_add_one, hy, List.countP_append]
                  show _ + List.countP _ [y'] = _
                  rw [List.countP_singleton]
                have hcl : countM true (Mm'.take j) ≤ j := by
                  unfold countM
                  exact Nat.le_trans (List.countP_le_length ..) (by rw [List.length_take]; omega)
                obtain ⟨C, hC⟩ : ∃ C, countM true (Mm'.take j) = C := ⟨_, rfl⟩
                rw [hC] at Hcn hcl ⊢
                have HY := Lib.hid (And.intro hy hDy)
                have HK := Lib.hid hkey
                have HMn := Lib.hid hmn
                have HMj := Lib.hid hmj
                clear hC hy hDy hkey hmn hmj
                go_wp2_with fail
                refine (nlook_yes g v' M' j mj _ hQ.out.N HMj.out (by have := HMn.out.1; omega)).mono ?_
                rintro e wA ⟨A', c', rfl, ho, hbA⟩
                have hQA := Lib.hid (hQ.out.new_ (hbA.trans ((na (nr wA) (.cells #[.bool mj.a, .int .i64 mj.h, .slice A' mj.n c'] 54)).mono hbA.size)))
                have hML := Lib.hid (MC.made wA mj.a mj.h (.slice A' mj.n c') 54)
                have hO := Lib.hid (bytes_new ho.bytes.1 (na (nr wA) (.cells #[.bool mj.a, .int .i64 mj.h, .slice A' mj.n c'] 54)))
                clear ho hbA hQ
                go_upto_region 59 with fail
                generalize wA.alloc (.cells #[.bool mj.a, .int .i64 mj.h, .slice A' mj.n c'] 54) = W3 at *
                generalize wA.heap.size = py at *
                obtain ⟨m0, m1, m2⟩ := row_msg hQA.out.R HY.out.1
                obtain ⟨p0, p1, p2, _, _, _⟩ := hML.out
                have hjN : j < Mm'.length := hjl
                go_cut [221] from 199 to 228 (fun s221 wx => s221 = .bool false ∧ Hid (NS w wx g v' (.slice (some ⟨qm, 0, none⟩) Mm'.length cr) M' Mm' []))
                case first =>
                  go_region_held3 (fun w' => w'.cell? ⟨qm, j * 3, none⟩ = some (.bool y'.a) ∧ w'.cell? ⟨qm, j * 3 + 1, none⟩ = some (.int .i64 y'.h) ∧ w'.cell? ⟨qm, j * 3 + 2, none⟩ = some (.slice y'.A y'.n y'.c) ∧ w'.cell? ⟨py, 0, none⟩ = some (.bool mj.a) ∧ w'.cell? ⟨py, 1, none⟩ = some (.int .i64 mj.h) ∧ w'.cell? ⟨py, 2, none⟩ = some (.slice A' mj.n c')) (exact ⟨m0, m1, m2, p0, p1, p2⟩) (first | (go_at_call 45; refine (rsame_any y'.a mj.a y'.h mj.h y'.A A' y'.n y'.c mj.n c' y'.l mj.l W3.drew (bytes_new ((HY.out.2.1.below hQA.out.b).more hQA.out.b.size) (nd (nr W3))) HY.out.2.2.1 (bytes_new hO.out (nd (nr W3))) HMn.out.2.2).mono ?_; rintro e wS ⟨rfl, hbS⟩; rw [same_key HK.out]; have hQS := Lib.hid (hQA.out.new_ ((nd (nr W3)).trans hbS)); obtain ⟨m0, m1, m2⟩ := row_msg hQS.out.R HY.out.1; obtain ⟨p0, p1, p2, _, _, _⟩ := hML.out.keep (((nd (nr W3)).trans hbS).block py (block_lt_of_cell hML.out.c0)); clear hbS))
                  all_goals (
                    go_wp2_with fail
                    go_meet
                    case rel => exact ⟨rfl, hQS⟩)
                case rest =>
                  obtain ⟨rfl, hQS⟩ := hcut
                  clear m0 m1 m2 p0 p1 p2
                  obtain ⟨m0, m1, m2⟩ := row_msg hQS.out.R HY.out.1
                  cases hya : y'.a with
                  | true =>
                    rw [hya] at Hcn m0
                    have Hcn := Lib.hid (show countM true (Mm'.take (j + 1)) = C + 1 from Hcn.out)
                    go_wp2_with fail
                    exact ⟨⟨j + 1, by omega, by go_num, by rw [Hcn.out]; go_num, hQS⟩, by simp [intOf]; omega⟩
                  | false =>
                    rw [hya] at Hcn m0
                    have Hcn := Lib.hid (show countM true (Mm'.take (j + 1)) = C from Hcn.out)
                    go_wp2_with fail
                    exact ⟨⟨j + 1, by omega, by go_num, by rw [Hcn.out], hQS⟩, by simp [intOf]; omega⟩
end Go.Proofs.Ytegpoghgddjmaaa
