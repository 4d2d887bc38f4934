/- The walk of pack.Reader's Num. -/
import Derived.Test.YtegpoghgddjmaaaReader
import Derived.Test.YtegpoghgddjmaaaNumPlain
import Derived.Deep.LoopGhost
import Derived.BigQuiet
import Derived.Deep.Cut
import Derived.ScopeJumps
import Derived.WalkMore
namespace Go.Proofs.Ytegpoghgddjmaaa
open Go.RowKit
set_option maxRecDepth 100000

theorem ones_any (x : Nat) (hx : x < 256) (v : Value) (hv : v = .int .u8 ((255 - x : Nat) : Int)) (w : World) : Calls Try.prog 81 #[v] w fun e w' => e = .returned (.int .i64 (ones x : Nat)) ∧ w' = w := by
  subst hv
  refine (zeros8_any (255 - x) w (by omega)).mono ?_
  rintro e w' ⟨rfl, r, hr, h8, rfl⟩
  exact ⟨by rw [ones_len hx hr h8], rfl⟩

theorem turned8 : ∀ x : Fin 256, bits BinOp.xor IntKind.u8 (if IntKind.u8.signed = true then -1 else IntKind.u8.max) ((x.val : Nat) : Int) = ((255 - x.val : Nat) : Int) := by decide +kernel

theorem low_bits : ∀ k : Fin 8, ∀ x : Fin 256, IntKind.u64.wrap (bits BinOp.and IntKind.u8 ((x.val : Nat) : Int) (127 / 2 ^ k.val)) = ((x.val % 2 ^ (7 - k.val) : Nat) : Int) := by decide +kernel
theorem begin_small {x : UInt8} {K : Nat} (h : ones x.toNat = K) (hk : K < 8) : IntKind.u64.wrap (bits BinOp.and IntKind.u8 ((x.toNat : Nat) : Int) (127 / 2 ^ K)) = ((begin_ x : Nat) : Int) := by
  unfold begin_
  rw [h, if_pos hk]
  exact low_bits ⟨K, hk⟩ ⟨x.toNat, x.toNat_lt⟩
theorem begin_full {x : UInt8} {K : Nat} (h : ones x.toNat = K) (hk : ¬ K < 8) : (0 : Int) = ((begin_ x : Nat) : Int) := by
  unfold begin_
  rw [h, if_neg hk]
  rfl

/-- Nothing turned but block g. -/
structure Only (g : Nat) (w w' : World) : Prop where
  os : w'.os = w.os
  tape : w'.tape = w.tape
  output : w'.output = w.output
  size : w'.heap.size = w.heap.size
  block : ∀ i, i ≠ g → w'.heap[i]? = w.heap[i]?
theorem Only.below {g : Nat} {w w' : World} (h : Only g w w') : Below g w w' := ⟨h.os, h.tape, h.output, Nat.le_of_eq h.size.symm, fun k hk => h.block k (by omega)⟩
theorem Only.drew {g : Nat} {w w' : World} (h : Only g w w') : Only g w w'.drew := ⟨h.os, h.tape, h.output, h.size, h.block⟩
theorem Only.refl (g : Nat) (w : World) : Only g w w := ⟨rfl, rfl, rfl, rfl, fun _ _ => rfl⟩
theorem OwnR.drew {w : World} {g : Nat} {A : Option Addr} {c : Nat} {l : List UInt8} {at_ : Nat} {e : Int} (h : OwnR w g A c l at_ e) : OwnR w.drew g A c l at_ e := ⟨h.c0, h.c1, h.c2, h.f1, h.f2, h.lt, h.bytes.below (Below.refl g w).drew, h.cap, h.at_le⟩

theorem OwnR.drewN {w : World} {g : Nat} {A : Option Addr} {c : Nat} {l : List UInt8} {at_ : Nat} {e : Int} (h : OwnR w g A c l at_ e) (n : Nat) : OwnR (w.drewN n) g A c l at_ e :=
  ⟨h.c0, h.c1, h.c2, h.f1, h.f2, h.lt, h.bytes.below (w' := w.drewN n) ⟨rfl, rfl, rfl, Nat.le_refl _, fun _ _ => rfl⟩, h.cap, h.at_le⟩
theorem Only.drewN {g : Nat} {w w' : World} (h : Only g w w') (n : Nat) : Only g w (w'.drewN n) := ⟨h.os, h.tape, h.output, h.size, h.block⟩
theorem get_short {l : List UInt8} {at_ : Nat} {x : UInt8} (hx : l[at_]? = some x) (h : l.length - at_ ≤ ones x.toNat) : getNum (l.drop at_) = (0, 0, 2) := by
  have hlt : at_ < l.length := (List.getElem?_eq_some_iff.1 hx).1
  have e : l[at_] = x := (List.getElem?_eq_some_iff.1 hx).2
  rw [List.drop_eq_getElem_cons hlt, e]
  simp only [getNum]
  rw [if_pos (by rw [List.length_drop]; omega)]

theorem get_full {l : List UInt8} {at_ : Nat} {x : UInt8} (hx : l[at_]? = some x) (h : ¬ l.length - at_ ≤ ones x.toNat) : getNum (l.drop at_) = if oth (beNum (begin_ x) ((l.drop (at_ + 1)).take (ones x.toNat))) ≠ ones x.toNat then (0, 0, 3) else (beNum (begin_ x) ((l.drop (at_ + 1)).take (ones x.toNat)), 1 + ones x.toNat, 0) := by
  have hlt : at_ < l.length := (List.getElem?_eq_some_iff.1 hx).1
  have e : l[at_] = x := (List.getElem?_eq_some_iff.1 hx).2
  rw [List.drop_eq_getElem_cons hlt, e]
  simp only [getNum]
  rw [if_neg (by rw [List.length_drop]; omega)]
theorem acc_lt (x : UInt8) (m : List UInt8) (d : Nat) (h : 7 - ones x.toNat + 8 * m.length ≤ d) : beNum (begin_ x) m < 2 ^ d := by
  have hbe : begin_ x + 1 ≤ 2 ^ (7 - ones x.toNat) := by
    unfold begin_
    split
    · exact Nat.mod_lt _ (Nat.two_pow_pos _)
    · exact Nat.two_pow_pos _
  have h1 := beNum_lt (begin_ x) m
  have h2 : (begin_ x + 1) * 256 ^ m.length ≤ 2 ^ (7 - ones x.toNat) * 256 ^ m.length := Nat.mul_le_mul_right _ hbe
  rw [show (256 : Nat) = 2 ^ 8 from rfl, ← Nat.pow_mul] at h1 h2
  rw [← Nat.pow_add] at h2
  exact Nat.lt_of_lt_of_le h1 (Nat.le_trans h2 (Nat.pow_le_pow_right (by decide) h))
theorem take_one_more {α : Type} {l : List α} {k : Nat} {x : α} (h : l[k]? = some x) : l.take (k + 1) = l.take k ++ [x] := by rw [List.take_add_one, h]; rfl
theorem beNum_snoc (v : Nat) (l : List UInt8) (j : Nat) (y : UInt8) (h : l[j]? = some y) : beNum v (l.take (j + 1)) = 256 * beNum v (l.take j) + y.toNat := by
  rw [take_one_more h, beNum_append]
  rfl

theorem or_byte (acc y : Nat) (h : acc < 72057594037927936) (hy : y < 2 ^ 8) : bits .or .u64 ((acc : Int) * 256) (y : Int) = ((256 * acc + y : Nat) : Int) := by
  have := u64_or_nat (acc * 256) y (by omega) (by omega)
  rw [nat_join 8 (acc * 256) y (by omega) hy] at this
  rw [show ((acc : Int) * 256) = ((acc * 256 : Nat) : Int) by omega, this, Nat.mul_comm]

theorem OwnR.step {w : World} {g : Nat} {A : Option Addr} {c : Nat} {l : List UInt8} {at_ : Nat} {e : Int} (h : OwnR w g A c l at_ e) (k : Int) (n : Nat) (hk : k = (n : Int)) (hn : n ≤ l.length) : OwnR (w.setCell ⟨g, 1, none⟩ (.int .i64 k)) g A c l n e := by
  subst hk
  refine ⟨?_, ?_, ?_, ?_, ?_, by simpa [World.setCell] using h.lt, h.bytes.below ((Below.refl g w).setCell (Nat.le_refl _) _), h.cap, hn⟩
  · rw [World.cell?_setCell_other _ _ _ _ (by simp)]; exact h.c0
  · exact World.cell?_setCell_same _ _ _ h.c1
  · rw [World.cell?_setCell_other _ _ _ _ (by simp)]; exact h.c2
  · rw [World.frozen?_setCell]; exact h.f1
  · rw [World.frozen?_setCell]; exact h.f2
theorem Only.setCell {g : Nat} {w w' : World} (h : Only g w w') (k : Nat) (v : Value) : Only g w (w'.setCell ⟨g, k, none⟩ v) :=
  ⟨h.os, h.tape, h.output, by rw [← h.size]; simp [World.setCell], fun i hi => (Below.heap_setCell _ _ _ _ hi).trans (h.block i hi)⟩
theorem Only.trans {g : Nat} {a b c : World} (h : Only g a b) (k : Only g b c) : Only g a c := ⟨k.os.trans h.os, k.tape.trans h.tape, k.output.trans h.output, k.size.trans h.size, fun i hi => (k.block i hi).trans (h.block i hi)⟩

def RNumPost (g : Nat) (A : Option Addr) (c : Nat) (l : List UInt8) (at_ : Nat) (e : Int) (w : World) (e' : Ending) (w' : World) : Prop :=
  OwnR w' g A c l (at_ + (if e = 0 then (getNum (l.drop at_)).2.1 else 0)) (if e = 0 then (getNum (l.drop at_)).2.2 else e) ∧ e' = .returned (.int .u64 ((if e = 0 then (getNum (l.drop at_)).1 else 0 : Nat) : Int)) ∧ Only g w w'

/-- At the label: too short. -/
def JNum (g : Nat) (A : Option Addr) (c : Nat) (l : List UInt8) (at_ : Nat) (w : World) (a' : Act) (w' : World) : Prop :=
  ∃ (u1 u2 u3 u4 u5 u6 u7 u8 u9 u10 u11 u12 u13 u14 u15 u16 u17 u18 u19 u20 u21 u22 u23 u24 u25 u26 u27 u28 u29 u30 u31 u32 u33 u34 u35 u36 u37 u38 u39 u40 u41 u42 u43 u44 u45 u46 u47 u48 u49 u50 u51 u52 u53 u54 u55 u56 u57 u58 u59 u60 u61 u62 u63 u64 u65 u66 u67 u68 u69 u70 u71 u72 u73 u74 u75 u76 u77 u78 u79 u80 u81 u82 u83 u84 u85 u86 u87 u88 u89 u90 u91 u92 u93 : Value), a' = { tmps := #[.pointer (some ⟨g, 0, none⟩), u1, u2, u3, u4, u5, u6, u7, u8, u9, u10, u11, u12, u13, u14, u15, u16, u17, u18, u19, u20, u21, u22, u23, u24, u25, u26, u27, u28, u29, u30, u31, u32, u33, u34, u35, u36, u37, u38, u39, u40, u41, u42, u43, u44, u45, u46, u47, u48, u49, u50, u51, u52, u53, u54, u55, u56, u57, u58, u59, u60, u61, u62, u63, u64, u65, u66, u67, u68, u69, u70, u71, u72, u73, u74, u75, u76, u77, u78, u79, u80, u81, u82, u83, u84, u85, u86, u87, u88, u89, u90, u91, u92, u93], defers := [] } ∧ OwnR w' g A c l at_ 0 ∧ Only g w w' ∧ getNum (l.drop at_) = (0, 0, 2)

set_option maxHeartbeats 4000000 in
theorem rnum_any (g : Nat) (A : Option Addr) (c : Nat) (l : List UInt8) (at_ : Nat) (e : Int) (w : World) (hR : OwnR w g A c l at_ e) (hl : l.length ≤ 140737488355328) :
    Calls Try.prog 32 #[.pointer (some ⟨g, 0, none⟩)] w (RNumPost g A c l at_ e w) := by
  obtain ⟨c0, c1, c2, f1, f2, lt, hb, hcap, hle⟩ := id hR
  go_enter Try.func32, Try.ntmps32
  by_cases he : e = 0
  · subst he
    go_wp2
    refine wp_scope_jumps 0 (JNum g A c l at_ w) (fun _ _ => 0) rfl ?_ ?_
    · go_wp2_with fail
      refine (left_any g A c l at_ 0 w hR hl).mono ?_
      rintro e w' ⟨rfl, rfl⟩
      by_cases hend : at_ = l.length
      · have hz : getNum (l.drop at_) = (0, 0, 2) := by rw [List.drop_eq_nil_of_le (by omega)]; rfl
        have hz' : l.length - at_ = 0 := by omega
        have HJ := Lib.hid (And.intro hR.drew (And.intro (Only.refl g w).drew hz))
        clear hz
        rw [hz']
        go_wp2_with fail
        go_step3
        obtain ⟨hR', hO', hz⟩ := HJ.out
        exact ⟨rfl, _, _, _, _, _, _, _, _, _, _, _, _, _, _, _, _, _, _, _, _, _, _, _, _, _, _, _, _, _, _, _, _, _, _, _, _, _, _, _, _, _, _, _, _, _, _, _, _, _, _, _, _, _, _, _, _, _, _, _, _, _, _, _, _, _, _, _, _, _, _, _, _, _, _, _, _, _, _, _, _, _, _, _, _, _, _, _, _, _, _, _, _, _, rfl, hR', hO', hz⟩
      · have hR1 := hR.drew
        have hO1 := (Only.refl g w).drew
        generalize w.drew = W at hR1 hO1 ⊢
        have hO1 := Lib.hid hO1
        clear hR hb c0 c1 c2 f1 f2 lt
        obtain ⟨b, off, x, rfl, hbg, hx, hcell⟩ := hR1.bytes.at_ (k := at_) (by omega)
        have hlt : at_ < l.length := by omega
        have hxl := x.toNat_lt
        have d0 := hR1.c0
        have d1 := hR1.c1
        have Hk := Lib.hid (And.intro hR1 (And.intro hx hbg))
        clear hR1 hx hbg
        have hne : ((l.length - at_ : Nat) : Int) ≠ 0 := by omega
        have hls : ((l.length - at_ : Nat) : Int) = (l.length : Int) - (at_ : Int) := by omega
        generalize hL : l.length - at_ = L at hne hls ⊢
        have h8 := ones_le x.toNat
        go_wp2_with fail
        go_quiet ((go_at_call 81; go_must (exact Calls.quiet_of_same (ones_any x.toNat hxl _ (congrArg (Value.int .u8) (turned8 ⟨x.toNat, hxl⟩)) _))))
        have hR2 := Hk.out.1.drewN nq
        have hO2 := hO1.out.drewN nq
        have Hx := Lib.hid Hk.out.2.1
        clear Hk hO1 d0 d1 hcell
        generalize W.drewN nq = W2 at hR2 hO2 ⊢
        generalize hK : ones x.toNat = K at h8 ⊢
        have HK := Lib.hid hK
        clear hK
        go_wp2_with fail
        refine (left_any g _ c l at_ 0 W2 hR2 hl).mono ?_
        rintro e w' ⟨rfl, rfl⟩
        have hR3 := hR2.drew
        have hO3 := hO2.drew
        clear hR2 hO2
        generalize W2.drew = W3 at hR3 hO3 ⊢
        rw [hL]
        by_cases hsh : L ≤ K
        · have HJ := Lib.hid (And.intro hR3 (And.intro hO3 (get_short Hx.out (by rw [hL, HK.out]; exact hsh))))
          clear hR3 hO3
          go_wp2_with fail
          go_step3
          obtain ⟨hR', hO', hz⟩ := HJ.out
          exact ⟨rfl, _, _, _, _, _, _, _, _, _, _, _, _, _, _, _, _, _, _, _, _, _, _, _, _, _, _, _, _, _, _, _, _, _, _, _, _, _, _, _, _, _, _, _, _, _, _, _, _, _, _, _, _, _, _, _, _, _, _, _, _, _, _, _, _, _, _, _, _, _, _, _, _, _, _, _, _, _, _, _, _, _, _, _, _, _, _, _, _, _, _, _, _, _, rfl, hR', hO', hz⟩
        · have d0 := hR3.c0
          have d1 := hR3.c1
          have hcell2 := hR3.bytes.at_ (k := at_) (by omega)
          obtain ⟨b', off', x', e1, _, hx', hcell⟩ := hcell2
          cases e1
          obtain rfl : x = x' := by have := Hx.out; rw [hx'] at this; injection this with this; exact this.symm
          clear hx'
          have Hr := Lib.hid (And.intro hR3 hO3)
          clear hR3 hO3
          have hge : (at_ : Int) + 1 + (K : Int) ≤ (l.length : Int) := by omega
          by_cases hk8 : K < 8
          all_goals go_wp2_with fail
          all_goals (try (go_quiet (fail); go_wp2_with fail; rw [begin_small HK.out hk8]))
          all_goals go_quiet (fail)
          all_goals go_wp2_with fail
          all_goals (
            go_loop [4, 66] (fun v i => ∃ j : Nat, j ≤ K ∧ i = .int .i64 j ∧ v = .int .u64 ((beNum (begin_ x) ((l.drop (at_ + 1)).take j) : Nat) : Int)) (fun _ i => K - (intOf i).toNat)
            case atStart => exact ⟨0, by omega, rfl, by first | rfl | exact congrArg (Value.int .u64) (begin_full HK.out hk8)⟩
            case round =>
              obtain ⟨j, hj, rfl, rfl⟩ := hrel
              by_cases hend2 : j = K
              · subst hend2
                have hacc : beNum (begin_ x) ((l.drop (at_ + 1)).take j) < 18446744073709551616 := acc_lt x _ 64 (by rw [List.length_take, List.length_drop, HK.out]; omega)
                have Hg := Lib.hid (get_full Hx.out (by rw [hL, HK.out]; exact hsh))
                rw [HK.out] at Hg
                generalize beNum (begin_ x) ((l.drop (at_ + 1)).take j) = acc at *
                go_wp2_with fail
                refine (others_any acc _ hacc).mono ?_
                rintro e w' ⟨rfl, rfl⟩
                by_cases ho : oth acc = j
                · have f1 := Hr.out.1.f1
                  have Ho := Lib.hid ho
                  rw [ho]
                  clear ho
                  go_wp2_with fail
                  simp only [Exit.jump]
                  go_ret
                  have hg2 := Hg.out
                  rw [if_neg (by rw [Ho.out]; simp)] at hg2
                  refine ⟨?_, ?_, (Hr.out.2.drewN _).setCell _ _⟩
                  · rw [if_pos rfl, if_pos rfl, hg2]
                    exact (Hr.out.1.drewN _).step _ _ (by show ((at_ : Int) + (1 + (j : Int))) = ((at_ + (1 + j) : Nat) : Int); omega) (by show at_ + (1 + j) ≤ l.length; omega)
                  · rw [if_pos rfl, hg2]
                    rfl
                · have Hn := Lib.hid ho
                  clear ho
                  have hno : ((oth acc : Int) != (j : Int)) = true := by rw [bne_iff_ne]; have := Hn.out; omega
                  go_wp2_with fail
                  refine (fail_any g _ _ l at_ 0 3 _ (Hr.out.1.drewN _)).mono ?_
                  rintro e w1 ⟨rfl, hR1, hb1, hs1, hk1⟩
                  have hO := (Hr.out.2.drewN _).trans ⟨hb1.os, hb1.tape, hb1.output, hs1, hk1⟩
                  have H1 := Lib.hid (And.intro hR1 hO)
                  clear hR1 hb1 hs1 hk1 hO
                  go_wp2_with fail
                  simp only [Exit.jump]
                  go_ret
                  have hg2 := Hg.out
                  rw [if_pos Hn.out] at hg2
                  refine ⟨?_, ?_, H1.out.2⟩
                  · rw [if_pos rfl, if_pos rfl, hg2]
                    exact H1.out.1
                  · rw [if_pos rfl, hg2]
                    rfl
              · have hj' : j < K := by omega
                obtain ⟨b2, off2, y, e2, _, hy, hcy⟩ := Hr.out.1.bytes.at_ (k := at_ + 1 + j) (by omega)
                cases e2
                have hacc : beNum (begin_ x) ((l.drop (at_ + 1)).take j) < 72057594037927936 := acc_lt x _ 56 (by rw [List.length_take, HK.out]; omega)
                have hy' : (l.drop (at_ + 1))[j]? = some y := by rw [List.getElem?_drop]; exact hy
                have Hn := Lib.hid (beNum_snoc (begin_ x) _ j y hy')
                clear hy hy'
                generalize beNum (begin_ x) ((l.drop (at_ + 1)).take j) = acc at *
                rw [show off + (at_ + 1 + j) = off + (at_ + 1) + j by omega] at hcy
                have hyl := y.toNat_lt
                go_wp2_with fail
                all_goals refine ⟨⟨j + 1, by omega, by congr 1, ?_⟩, by simp [intOf]; omega⟩
                all_goals rw [or_byte acc y.toNat hacc hyl, Hn.out])
    · rintro a' WW ⟨u1, u2, u3, u4, u5, u6, u7, u8, u9, u10, u11, u12, u13, u14, u15, u16, u17, u18, u19, u20, u21, u22, u23, u24, u25, u26, u27, u28, u29, u30, u31, u32, u33, u34, u35, u36, u37, u38, u39, u40, u41, u42, u43, u44, u45, u46, u47, u48, u49, u50, u51, u52, u53, u54, u55, u56, u57, u58, u59, u60, u61, u62, u63, u64, u65, u66, u67, u68, u69, u70, u71, u72, u73, u74, u75, u76, u77, u78, u79, u80, u81, u82, u83, u84, u85, u86, u87, u88, u89, u90, u91, u92, u93, rfl, hR', hO, hz⟩
      have Hz := Lib.hid (And.intro hz hO)
      clear hz hO
      go_wp2_with fail
      refine (fail_any g A c l at_ 0 2 WW hR').mono ?_
      rintro e w1 ⟨rfl, hR1, hb1, hs1, hk1⟩
      have H1 := Lib.hid (And.intro hR1 (And.intro hb1 (And.intro hs1 hk1)))
      clear hR1 hb1 hs1 hk1
      go_wp2
      simp only [Exit.jump]
      go_ret
      refine ⟨?_, ?_, ?_⟩
      · rw [if_pos rfl, if_pos rfl, Hz.out.1]; exact H1.out.1
      · rw [if_pos rfl, Hz.out.1]; rfl
      · have hO := Hz.out.2
        obtain ⟨_, hb1, hs1, hk1⟩ := H1.out
        exact ⟨hb1.os.trans hO.os, hb1.tape.trans hO.tape, hb1.output.trans hO.output, hs1.trans hO.size, fun i hi => (hk1 i hi).trans (hO.block i hi)⟩
  · have hq : (e != 0) = true := by rw [bne_iff_ne]; exact he
    go_wp2
    go_step3
    go_wp2
    rw [Exit.noGoto_ret]
    go_ret
    refine ⟨?_, ?_, Only.refl g w⟩
    · rw [if_neg he, if_neg he]; exact hR
    · rw [if_neg he]; rfl
end Go.Proofs.Ytegpoghgddjmaaa
