/- Send and Double: the new message's data lies in new memory. -/
import Derived.Test.YtegpoghgddjmaaaNetDouble
import Derived.Deep.RegionLaw
namespace Go.Proofs.Ytegpoghgddjmaaa
open Go.RowKit
set_option maxRecDepth 100000

def NSendF (g : Nat) (v : Value) (M : List Ms) (a : Bool) (h : Int) (n : Nat) (l : List UInt8) (w : World) (e : Ending) (w' : World) : Prop :=
  e = .returned (.bool true) ∧ ∃ v' A' c', OwnN w' g v' (M ++ [⟨a, h, A', n, c', l⟩]) ∧ Grew w w' g v v' ∧ (0 < l.length → ∀ b off, A' = some ⟨b, off, none⟩ → w.heap.size ≤ b)
set_option maxHeartbeats 4000000 in
theorem nsend_fresh (g : Nat) (v : Value) (M : List Ms) (a : Bool) (h : Int) (A : Option Addr) (n c : Nat) (l : List UInt8) (w : World) (hN : OwnN w g v M) (hA : Bytes w w.heap.size A l) (hn : l.length = n) (hcap : A = none → c = 0) (hM : M.length < 4096) (hr : rightS a h n = true) (hnl : n ≤ 140737488355328) :
    Calls Try.prog 40 #[.pointer (some ⟨g, 0, none⟩), MV a h A n c] w (NSendF g v M a h n l w) := by
  have hb1 : Below w.heap.size w (w.alloc (.cells #[.bool a, .int .i64 h, .slice A n c] 54)) := na (nr w) _
  have hm1 := MC.made w a h (.slice A n c) 54
  have hs1 : w.heap.size < (w.alloc (.cells #[.bool a, .int .i64 h, .slice A n c] 54)).heap.size := by simp
  have Hrow : ∃ A0 c0, v = .slice A0 M.length c0 := by
    rcases hN.row.2 with ⟨h1, h2⟩ | ⟨q, cap, cur, h1, _⟩
    · exact ⟨none, 0, by rw [h1, h2]⟩
    · exact ⟨_, _, h1⟩
  obtain ⟨A0, c0, rfl⟩ := Hrow
  have h4b : ((M.length : Int) == 4096) = false := by rw [beq_eq_false_iff_ne]; omega
  have hN1 := hN.new_ hb1
  have c1 := hN1.c
  obtain ⟨p0, p1, p2, _, _, _⟩ := id hm1
  go_enter Try.func40, Try.ntmps40
  go_wp2_with fail
  refine (right_any a h A n c _ (by omega)).mono ?_
  rintro e w2 ⟨rfl, hb2⟩
  rw [hr]
  obtain ⟨p0, p1, p2, _, _, _⟩ := hm1.keep (hb2.block w.heap.size hs1)
  have hN2 := hN1.new_ hb2
  have hb := nt hb1 hb2
  have hA2 := (hA.below hb).more hb.size
  have c1 := hN2.c
  clear hm1 hN1 hb1 hb2 hN hA hs1
  go_upto_region 3 with fail
  obtain ⟨i, hi, hz, hsz, hby⟩ := info_parts msgInfo
  have HD := Lib.hid (And.intro (hN2.new_ (nd (nr w2))) (And.intro (nd hb) (show Bytes w2.drew w2.drew.heap.size A l from hA2)))
  have p0 : w2.drew.cell? ⟨w.heap.size, 0, none⟩ = some (.bool a) := p0
  have p1 : w2.drew.cell? ⟨w.heap.size, 1, none⟩ = some (.int .i64 h) := p1
  have p2 : w2.drew.cell? ⟨w.heap.size, 2, none⟩ = some (.slice A n c) := p2
  have c1 : w2.drew.cell? ⟨g, 0, none⟩ = some (.slice A0 M.length c0) := c1
  have Hi := Lib.hid (And.intro hi (And.intro hz (And.intro hsz hby)))
  clear hi hz hsz hby hN2 hb hA2
  go_region_law (first
    | (go_simp; go_at_call 84; refine (nclone_any a h A n c l _ HD.out.2.2 hn hnl hcap).mono ?_; rintro e W3 ⟨A', c', rfl, ho, hnn, hb3⟩; have c1 := (HD.out.1.new_ hb3).c; have HN4 := Lib.hid ((HD.out.1.new_ hb3).new_ (na (nr W3) (.cells #[.bool a, .int .i64 h, .slice A' n c'] 54))); have c2 := HN4.out.c; have HO := Lib.hid (And.intro ho hb3); clear ho hnn hb3)
    | (refine step_append_lies _ rfl (.tmp 20) (.tmp 23) 60 rfl (g + 1) 54 i (MV false 0 none 0 0) 3 40 Try.underlying60 Hi.out.1 Hi.out.2.1 Hi.out.2.2.1 Hi.out.2.2.2 rfl (by decide) (.slice A0 M.length c0) M.length (rowM M) (by simp [Act.eval]) HN4.out.row ⟨W3.heap.size, 0, none⟩ 1 1 [.bool a, .int .i64 h, .slice A' n c'] (by simp [Act.eval]) rfl (msg_news W3 a h _) (msg_one a h A' n c') (by decide) (by unfold maxLen; omega) (by omega) HN4.out.lt _ rfl ?_; intro g' cap w4 hown hgrow hat hlt; obtain ⟨hP, hG, k1, k2⟩ := npush (m := ⟨a, h, A', n, c', l⟩) HN4.out (nsend_data HO.out.1 hn) (nsend_far HD.out.1 HO.out.1) hown hgrow hat; have HP := Lib.hid (And.intro hP hG); clear hP hG hown hgrow hat hlt))
  all_goals (
    go_wp2_with fail
    go_ret
    exact ⟨rfl, _, A', c', HP.out.1, (Grew.of_below ((HD.out.2.1.trans (HO.out.2.mono HD.out.2.1.size)).trans ((na (nr W3) _).mono (Nat.le_trans HD.out.2.1.size HO.out.2.size))) g _).trans HP.out.2, fun hp b off e => by
      obtain ⟨q, e2, hq, _⟩ := HO.out.1.some_ hp
      rw [e] at e2
      injection e2 with e2
      injection e2 with e2 _
      have := HD.out.2.1.size
      omega⟩)
set_option maxHeartbeats 2000000 in
theorem ndouble_fresh (g : Nat) (v : Value) (M : List Ms) (i : Nat) (m : Ms) (w : World) (hN : OwnN w g v M) (hm : M[i]? = some m) (hl : m.n ≤ 140737488355328) (hM : M.length < 4096) (hr : rightS m.a m.h m.n = true) :
    Calls Try.prog 41 #[.pointer (some ⟨g, 0, none⟩), .int .i64 i] w (NSendF g v M m.a m.h m.n m.l w) := by
  have hlt := (List.getElem?_eq_some_iff.1 hm).1
  obtain ⟨q, c, rfl, hgq, hqs, k0, k1, k2⟩ := hN.cells hm
  have c1 := hN.c
  have hltI : (i : Int) < (M.length : Int) := by omega
  have hdat := hN.data m (List.mem_of_getElem? hm)
  have HN := Lib.hid (And.intro hN hdat)
  clear hN hdat
  go_enter Try.func41, Try.ntmps41
  go_wp2_with fail
  refine (nhas_any g _ M.length c i _ HN.out.1.c).mono ?_
  rintro e w' ⟨rfl, rfl⟩
  rw [decide_eq_true (by omega)]
  go_wp2_with fail
  refine (nsend_fresh g _ M m.a m.h m.A m.n m.c m.l w' HN.out.1 HN.out.2.1 HN.out.2.2.1 HN.out.2.2.2 hM hr hl).mono ?_
  rintro e w2 ⟨rfl, h2⟩
  have H2 := Lib.hid h2
  clear h2 k0 k1 k2 c1
  go_wp2_with fail
  go_ret
  exact ⟨rfl, H2.out⟩
end Go.Proofs.Ytegpoghgddjmaaa
