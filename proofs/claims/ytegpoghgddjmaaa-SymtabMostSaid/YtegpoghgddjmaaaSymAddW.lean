/- The walk of symtab's add: a text put behind the others. -/
import Derived.Test.YtegpoghgddjmaaaSymAdd
import Derived.Deep.QuietTactic
import Derived.BigQuiet
namespace Go.Proofs.Ytegpoghgddjmaaa
open Go.RowKit
set_option maxRecDepth 100000

theorem blockInfo : (Try.prog.info? 119).map (fun i => (i.zero, i.size, i.bytes)) = some (some (.agg #[.string ⟨#[]⟩, .slice none 0 0]), 2, 40) := by kernel_rfl
theorem tailInfo : (Try.prog.info? 122).map (fun i => (i.zero, i.size, i.bytes)) = some (some (.agg #[.int .i64 0, .string ⟨#[]⟩]), 2, 24) := by kernel_rfl
def AddPost (g : Nat) (L : List (List UInt8)) (s : List UInt8) (w : World) (e : Ending) (w' : World) : Prop :=
  e = .returned (.tuple #[]) ∧ ∃ v' xs', Tab w' g (L ++ [s]) v' xs' ∧ Below g w w'
theorem two_news (W : World) (a b : Value) (t : TypeId) : ∀ (j : Nat) (u : Value), ([a, b] : List Value)[j]? = some u → (W.alloc (.cells #[a, b] t)).cell? ((⟨W.heap.size, 0, none⟩ : Addr).add j) = some u := fun j u hj => by
  match j, hj with
  | 0, hj => simp at hj; subst hj; simp [Addr.add]
  | 1, hj => simp at hj; subst hj; simp [Addr.add]
theorem one_block (s : List UInt8) : ∀ u ∈ ([S8 s, .slice none 0 0] : List Value), u.oneCell' = true := fun u hu => by
  simp at hu
  rcases hu with rfl | rfl <;> rfl
theorem one_tail (n : Nat) (s : List UInt8) : ∀ u ∈ ([.int .i64 n, S8 s] : List Value), u.oneCell' = true := fun u hu => by
  simp at hu
  rcases hu with rfl | rfl <;> rfl
theorem ownsRow_form {w : World} {base size n : Nat} {e : TypeId} {v : Value} {xs : List Value} (h : w.ownsRow base e size v n xs) : ∃ A c, v = .slice A n c := by
  rcases h.2 with ⟨h1, h2⟩ | ⟨q, cap, cur, h1, _⟩
  · exact ⟨none, 0, by rw [h1, h2]⟩
  · exact ⟨_, _, h1⟩
set_option maxHeartbeats 4000000 in
theorem add_first (g n : Nat) (L : List (List UInt8)) (rest s : List UInt8) (v : Value) (xs : List Value) (w : World) (hT : Tab w g L v xs) (hl : L.length ≤ 4096) (hs : s.length ≤ 400) (q : Nat) (h8 : 8 * q = L.length) :
    Calls Try.prog 89 #[.pointer (some ⟨g, 0, none⟩), .int .i64 n, S8 rest, S8 s] w (AddPost g L s w) := by
  obtain ⟨A0, C0, rfl⟩ := ownsRow_form hT.row
  have c0 := hT.c0
  have c1 := hT.c1
  have HT := Lib.hid hT
  obtain ⟨i, hi, hz, hsz, hby⟩ := info_parts blockInfo
  have Hi := Lib.hid (And.intro hi (And.intro hz (And.intro hsz hby)))
  clear hi hz hsz hby hT
  have hq : ((L.length : Int)).tmod 8 = 0 := by rw [Int.tmod_eq_emod_of_nonneg (by omega)]; omega
  have hq2 : ((L.length : Int)) % 8 = 0 := by omega
  have hnb : blocksN L.length ≤ 513 := by unfold blocksN; omega
  have H8 := Lib.hid h8
  clear h8
  generalize hNB : blocksN L.length = nb at *
  have HNB := Lib.hid hNB
  clear hNB
  have Hrow := Lib.hid (show (w.alloc (.cells #[S8 s, .slice none 0 0] 119)).ownsRow (g + 1) 119 2 (.slice A0 nb C0) nb xs by
    have := HT.out.row
    rw [HNB.out] at this
    exact this.alloc _)
  go_enter Try.func89, Try.ntmps89
  go_wp2_with (at_builtin; go_loud (refine wpList_append_lies _ rfl (.tmp 19) (.tmp 22) 113 rfl (g + 1) 119 i _ 2 40 Try.underlying113 Hi.out.1 Hi.out.2.1 Hi.out.2.2.1 Hi.out.2.2.2 rfl (by decide) (.slice A0 nb C0) nb xs rfl Hrow.out ⟨w.heap.size, 0, none⟩ 1 1 [S8 s, .slice none 0 0] rfl rfl (two_news w _ _ _) (one_block s) (by decide) (by simp only [maxLen]; omega) (by omega) (by have := HT.out.lt; simp; omega) _ rfl ?_)
               intro g1 cap w1 ho hg hat hlt
               have HP := Lib.hid (HT.out.first H8.out hs (na (nr w) _) (by rw [HNB.out]; exact ho) hg)
               rw [HNB.out] at HP
               obtain ⟨p1, p2, p3, p4⟩ := HP.out.2.2
               clear ho hg hat hlt)
  exact bodyPost_end (v := .tuple #[]) (by simp [results, Try.results89, go_sem]) rfl ⟨rfl, _, _, HP.out.1, HP.out.2.1⟩
set_option maxHeartbeats 4000000 in
theorem add_more (g n : Nat) (L : List (List UInt8)) (rest s : List UInt8) (v : Value) (xs : List Value) (w : World) (hT : Tab w g L v xs) (hl : L.length ≤ 4096) (hs : s.length ≤ 400) (q : Nat) (h8 : 8 * q < L.length) (h9 : L.length < 8 * q + 8)
    (hn : n = alikeS (txt L (L.length - 1)) s) (hr : rest = s.drop n) :
    Calls Try.prog 89 #[.pointer (some ⟨g, 0, none⟩), .int .i64 n, S8 rest, S8 s] w (AddPost g L s w) := by
  obtain ⟨A0, C0, rfl⟩ := ownsRow_form hT.row
  have hnb := (blocksN_succ_more h8 h9).1
  have hpos : 0 < blocksN L.length := by omega
  obtain ⟨gb, cb, hv, hgb1, hgb2⟩ := World.ownsRow.form hT.row hpos
  injection hv with hv1 hv2 hv3
  subst hv1 hv3
  obtain ⟨u, b1, b2, b3⟩ := hT.blk q h8
  obtain ⟨Au, cu, rfl⟩ := ownsRow_form b3
  have c0 := hT.c0
  have c1 := hT.c1
  have hrow := hT.row
  have k1 := (ownsRow_at hrow b2).1
  rw [hnb] at c1 hT hrow
  have htl := tailsOf_length L q
  have hrow1 := Lib.hid (And.intro (b3.alloc (.cells #[.int .i64 n, S8 rest] 122)) (And.intro hT (And.intro b2 (And.intro b3 hrow))))
  have ht : ((n : Nat), rest) = (alikeS (txt L (L.length - 1)) s, s.drop (alikeS (txt L (L.length - 1)) s)) := by rw [hr, hn]
  have Ht := Lib.hid ht
  have hgl := hT.lt
  clear b1 b2 b3 hrow hT hn hr ht hpos hgb1 hgb2 hnb
  obtain ⟨i, hi, hz, hsz, hby⟩ := info_parts tailInfo
  have Hi := Lib.hid (And.intro hi (And.intro hz (And.intro hsz hby)))
  clear hi hz hsz hby
  have hq : (((L.length : Int)).tmod 8 == 0) = false := by rw [Int.tmod_eq_emod_of_nonneg (by omega), beq_eq_false_iff_ne]; omega
  have hq2 : (((L.length : Int)) % 8 == 0) = false := by rw [beq_eq_false_iff_ne]; omega
  have htl7 : (tailsOf L q).length ≤ 7 := by omega
  clear htl
  generalize hTT : tailsOf L q = T at *
  have HTT := Lib.hid hTT
  clear hTT
  have Hrow := Lib.hid (fun nq => show ((w.drewN nq).alloc (.cells #[.int .i64 n, S8 rest] 122)).ownsRow (g + 1) 122 2 (.slice Au T.length cu) T.length (tcells T) from ownsRow_new hrow1.out.2.2.2.1 (na (ndN (nr w) nq) _))
  go_enter Try.func89, Try.ntmps89
  go_wp2_with fail
  go_quiet (fail)
  go_wp2_with (at_builtin; go_loud (refine wpList_append_lies _ rfl (.tmp 41) (.tmp 45) 117 rfl (g + 1) 122 i _ 2 24 Try.underlying117 Hi.out.1 Hi.out.2.1 Hi.out.2.2.1 Hi.out.2.2.2 rfl (by decide) (.slice Au T.length cu) T.length (tcells T) rfl (Hrow.out nq) ⟨w.heap.size, 0, none⟩ 1 1 [.int .i64 n, S8 rest] rfl rfl (two_news (w.drewN nq) _ _ _) (one_tail n rest) (by decide) (by simp only [maxLen]; omega) (by omega) (by simp; omega) _ rfl ?_)
               intro g1 cap w1 ho hg hat hlt
               have HP := Lib.hid (hrow1.out.2.1.more h8 h9 hs hrow1.out.2.2.1 (HTT.out ▸ hrow1.out.2.2.2.1) Ht.out (na (ndN (nr w) nq) _) (HTT.out ▸ ho) hg hat)
               rw [HTT.out] at HP
               obtain ⟨p1, p2, p3, p4, p5⟩ := HP.out.2.2
               clear ho hg hat hlt)
  exact bodyPost_end (v := .tuple #[]) (by simp [results, Try.results89, go_sem]) rfl ⟨rfl, _, _, HP.out.1, HP.out.2.1⟩
theorem add_any (g n : Nat) (L : List (List UInt8)) (rest s : List UInt8) (v : Value) (xs : List Value) (w : World) (hT : Tab w g L v xs) (hl : L.length ≤ 4096) (hs : s.length ≤ 400) (hn : L.length % 8 ≠ 0 → n = alikeS (txt L (L.length - 1)) s ∧ rest = s.drop n) :
    Calls Try.prog 89 #[.pointer (some ⟨g, 0, none⟩), .int .i64 n, S8 rest, S8 s] w (AddPost g L s w) := by
  by_cases h8 : L.length % 8 = 0
  · exact add_first g n L rest s v xs w hT hl hs (L.length / 8) (by omega)
  · obtain ⟨h1, h2⟩ := hn h8
    exact add_more g n L rest s v xs w hT hl hs (L.length / 8) (by omega) (by omega) h1 h2
end Go.Proofs.Ytegpoghgddjmaaa
