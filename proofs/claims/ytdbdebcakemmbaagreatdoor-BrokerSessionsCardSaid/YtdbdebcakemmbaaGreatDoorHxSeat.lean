/- This seat: its tables, its functions, the world of its witnesses. -/
import Derived.Test.YtdbdebcakemmbaaGreatDoorCards
import Derived.Test.YtdbdebcakemmbaaGreatDoorTie
import Derived.ProofKit
import Derived.OpenShut
import Derived.Deep.DeepHandedRow
import Derived.Deep.DeepWitnessRowRef
import Derived.Lib.LaidU8T
import Derived.Lib.LaidIn
import Derived.Test.YtdbdebcakemmbaaGreatDoorHxTabOk
import Derived.Test.YtdbdebcakemmbaaGreatDoorHxSortPrim
import Derived.Test.YtdbdebcakemmbaaGreatDoorHxLays
import Derived.Test.YtdbdebcakemmbaaGreatDoorHxJoin
namespace Go.Proofs.YtdbdebcakemmbaaGreatDoor
open Go.Shelf Go.Hx
theorem own : ownKnob Tryz.prog.godebug = none := by kernel_rfl
def ren : Ren := ⟨fun n => n, fun n => match n with | 5 => 5 | 119 => 331 | 138 => 333 | 139 => 334 | n => n, fun n => match n with | 3 => 1 | 4 => 2 | n => n⟩
theorem u8t : U8Types Tryz.prog ren := ⟨by kernel_rfl, by kernel_rfl, by kernel_rfl, by kernel_rfl⟩
theorem u8x : U8Extra Tryz.prog ren := ⟨by kernel_rfl, by kernel_rfl, by kernel_rfl, by kernel_rfl, by kernel_rfl, by kernel_rfl, by kernel_rfl⟩
theorem first_eq : Rows.laid_unicode_utf8_first = Lib.firstData := by kernel_rfl
theorem accept_eq : (Rows.laid_unicode_utf8_acceptRanges : DataW Unit) = Lib.acceptData := by kernel_rfl
theorem tabs {W : World} (h1 : Lib.VarReads Tryz.prog W "unicode/utf8.first" Rows.laid_unicode_utf8_first) (h2 : Lib.VarReads Tryz.prog W "unicode/utf8.acceptRanges" Rows.laid_unicode_utf8_acceptRanges) : Lib.Utf8Tabs 1 2 W :=
  utf8Tabs_of_readsT u8t u8x (first_eq ▸ h1) (accept_eq ▸ h2)
theorem mixed : Tryz.prog.follows .mixedOrders = true := by kernel_rfl
theorem names : NamesOk Tryz.prog := names_ok (by kernel_rfl)
theorem index_ext : IsExtern Tryz.prog 289 Extern.BytealgIndexByte.indexByte :=
  ⟨fun args w => by rw [run_callFunc_extern Tryz.func289 (by kernel_rfl) (by kernel_rfl) (by kernel_rfl) (e := Extern.BytealgIndexByte.indexByte) (by kernel_rfl)]; simp only [Sem.run_bind]; rfl⟩
theorem count_ext : IsExtern Tryz.prog 276 Extern.BytealgCount.count :=
  ⟨fun args w => by rw [run_callFunc_extern Tryz.func276 (by kernel_rfl) (by kernel_rfl) (by kernel_rfl) (e := Extern.BytealgCount.count) (by kernel_rfl)]; simp only [Sem.run_bind]; rfl⟩
theorem sortsZ : AnyZ.SortsIn Tryz.prog sorted117R Fence.wide 4 :=
  ⟨fun blk off cap ss W hH hblk hsz => callsIn_wide.2 (AnyM.slices_Sort_string sort109L blk off cap ss W hH hblk hsz), fun p cap W => callsIn_wide.2 (AnyM.slices_Sort_string_none sort109L p cap W)⟩
theorem sortsZI : AnyZI.SortsIn Tryz.prog sorted55R Fence.wide 4 :=
  ⟨fun blk off cap ss W hH hblk hsz => callsIn_wide.2 (AnyM.slices_Sort_int sort54L blk off cap ss W hH hblk hsz), fun p cap W => callsIn_wide.2 (AnyM.slices_Sort_int_none sort54L p cap W)⟩
theorem sortsS : SortsS Tryz.prog 117 166 := sortsS_of sorted117L keys118L Tryz.underlying9 sortsZ (enters_of Tryz.func117 (by kernel_rfl) rfl) (enters_of Tryz.func109 (by kernel_rfl) rfl) (enters_of Tryz.func166 (by kernel_rfl) rfl)
theorem sortsI : SortsI Tryz.prog 55 108 := sortsI_of sorted55L keys56L Tryz.underlying3 sortsZI (enters_of Tryz.func55 (by kernel_rfl) rfl) (enters_of Tryz.func107 (by kernel_rfl) rfl) (enters_of Tryz.func108 (by kernel_rfl) rfl)
noncomputable def prims (f : Nat) : Option (List AV → Hx.Heap → List (AV × Hx.Heap)) :=
  if Nat.beq f 289 then some pIndexByte else if Nat.beq f 276 then some pCount else if Nat.beq f 117 then some (pSorted true 166) else if Nat.beq f 55 then some (pSorted false 108) else if Nat.beq f 160 then some pJoin else none
set_option maxRecDepth 100000 in
theorem prims_ok {σ : Nat → Value} {B : Nat} {gm : Nat → Nat → Option AV} (hb : GmB B gm) : PrimOk Tryz.prog σ B gm prims := fun f p h => by
  unfold prims at h
  split at h
  · rename_i e
    cases h
    rw [Nat.eq_of_beq_eq_true e]
    exact prim_index index_ext
  · split at h
    · rename_i e
      cases h
      rw [Nat.eq_of_beq_eq_true e]
      exact prim_count count_ext
    · split at h
      · rename_i e
        cases h
        rw [Nat.eq_of_beq_eq_true e]
        exact prim_sortedS sortsS hb
      · split at h
        · rename_i e
          cases h
          rw [Nat.eq_of_beq_eq_true e]
          exact prim_sortedI sortsI hb
        · split at h
          · rename_i e
            cases h
            rw [Nat.eq_of_beq_eq_true e]
            exact prim_join join160L join160X (enters_of Tryz.func160 (by kernel_rfl) rfl) hb
          · cases h
def masks : List Nat := [0, 0, 0, 14896200894412172053478736752602644408696832, 302102324007122501632, 5100145160001678121512752469174549973725452808856079958016, 1701022139746304, 392026554340853747786417229146085795168256, 73201368796759040, 3147613597741707521621276547002216759296, 2661052221704384926586758529349355520, 8792834176, 0, 128, 8115619687072892778042582914072576, 105742338963456, 8, 2102336, 319036872492823624665656448039942111232, 2551198259644416, 100270704378600077809179655286070181957852324404043776, 144626432, 16, 569083236480, 11953568972757838876672, 16, 6336, 6336, 39232, 8, 36028797035741184, 77371866414618769371500544, 0, 544, 0, 8, 3136, 17354400712973361438157518981519067578368, 6442500096, 288230376151711744, 1134624768, 303218478856905327104, 20916853873803874558906779828224, 288230376285964288, 2529962238385062912, 8, 46272, 8, 359679351855104, 1165312, 0, 20542074606135023616, 1403706302253495869498943013261183812096, 2236672, 1342177312, 336, 0, 1706442046308352, 96, 51548399744, 0, 16, 2263464542720, 2147614848, 351844257759232, 343597515040, 217101605504, 49818922633132923498037612605972545231098149427719717120, 178133768601728, 0, 49920, 5152, 8, 6898335952839168, 8, 72, 864, 96, 6303808, 146496, 0, 6546259968, 8, 295488, 2487257344, 60703113856, 28440575684042144645120, 8858370048, 3215776, 270532608, 235420032, 216352, 32, 6528, 37717664061195392, 49785886523338752, 262144, 0, 4398047559680, 17783883840, 283658794632112564126696955082919526268082471183148336021504, 598114432, 80280230209076564396032, 153122396189524992, 20987936, 4295046336, 8, 232, 3072, 232, 1644341639973457472, 4611699513219220480, 20132970752, 16, 6621440, 8, 96, 336, 0, 0, 8, 68719478528, 32768, 149520, 24, 35298048, 1149239296, 777849992526163036070716593878749409578309386240, 64, 92995513530766013461350157278478539954172461056, 10360370432, 8, 8, 8, 21430336, 16, 8, 2336276736, 0, 617966493819417395200, 9475163392, 40811200512, 67108864, 201792, 5771808512, 96, 688256, 36893511924769671296, 232120901109315497602884608, 25774430464, 304, 0, 0, 0, 0, 304, 64, 15554530877732006076555157418391660658688, 72, 15554530877732006076555157418391660658688, 2956457957127112230912, 72, 60203992320, 96, 160, 8, 3072, 562962838372352, 0, 384, 4869959012807784529920, 0, 0, 8, 608, 608, 7516593344, 9483367604294912, 5024, 0, 443008, 790560, 384, 0, 0, 0, 304515392404283457536, 64, 608, 0, 608, 149520, 78023456, 96, 8, 270912, 0, 906190848, 2147527936, 33777000088123392, 59528719980544, 82462111718137856, 1342184192, 28640980749004268138517871241216, 32, 12693736093950758577242112, 187075777715282031894454893087600043336570261995520, 27304, 1747624, 2147527936, 33777000088123392, 59528719980544, 82462111718137856, 1342184192, 28640980749004268138517871241216, 32, 12693736093950758577242112, 187075777715282031894454893087600043336570261995520, 12582992, 140096, 0, 15932747490016317440, 64, 0, 413696, 2664, 912, 19364909674365067687771461667657844483811141353472, 758988099329957886502768214016, 261227577789726278056908119370239888947412992, 24, 160, 0, 0, 35136, 35136, 8, 33554432, 96, 8, 1409536, 8, 37778931863094600715264, 8, 1073741824, 11648, 38536804352, 24, 37778931863094600715264, 11648, 38536804352, 278916, 204472320, 762641049457920, 1991451776, 96, 343036752712609385948890889287016448, 8, 0, 24, 72, 34359915520, 558446376868044800, 238114879922176, 5277918502945914880, 5368736768, 1833022767931583076139460565573632, 812399110012004113947033600, 191565596380448792684363687061575408775048820714110976, 146496, 252182528, 252182528, 0, 0, 648, 51216, 0, 4649618732484976231693147505886522083786752, 104, 104, 2417851639231457372876800, 112128, 1235067854848, 10719899840187907923120955060822016, 96, 0, 8, 906814548798674595289088, 4034920448, 0, 470655870464, 0, 0, 0, 0, 0, 0, 0, 0, 0, 0, 0, 0, 0, 0, 0, 0, 0, 0, 0, 0, 0, 0, 0, 0, 0, 0, 0, 0]
noncomputable def fns : Hx.T MFunc := fnsOf Tryz.prog masks
theorem fns_ok : FnsOk Tryz.prog fns := fnsOf_ok Tryz.prog masks
def lets (f : Nat) : Bool := Nat.beq f 63
/-- A WORLD FOR THE WITNESSES: the settled one, the tables holding what their initialisers lay. -/
noncomputable def laidWorld (os : Os) : World :=
  let w0 := World.holding Tryz.prog os ⟨#[], #[], []⟩
  let put (h : Array Obj) (g : Nat) (cs : Array Value) : Array Obj := h.modify g fun
    | .cells _ t frozen => .cells cs t frozen
    | o => o
  let h1 := put w0.heap 0 ([1, 10, 100, 1000, 10000, 100000, 1000000, 10000000, 100000000, 1000000000, 10000000000, 100000000000, 1000000000000, 10000000000000, 100000000000000, 1000000000000000, 10000000000000000, 100000000000000000, 1000000000000000000, 10000000000000000000].map fun z => Value.int .u64 z).toArray
  let h2 := put h1 1 (Lib.firstTab.map fun z => Value.int .u8 z).toArray
  let h3 := put h2 2 ((List.range 16).flatMap fun i => [Value.int .u8 (Lib.accLo i), Value.int .u8 (Lib.accHi i)]).toArray
  let h4 := put h3 4 ([0, 1, 28, 2, 29, 14, 24, 3, 30, 22, 20, 15, 25, 17, 4, 8, 31, 27, 13, 23, 21, 19, 16, 7, 26, 12, 18, 6, 11, 5, 10, 9].map fun z => Value.int .u8 z).toArray
  let h5 := put h4 5 ([0, 1, 56, 2, 57, 49, 28, 3, 61, 58, 42, 50, 38, 29, 17, 4, 62, 47, 59, 36, 45, 43, 51, 22, 53, 39, 33, 30, 24, 18, 12, 5, 63, 55, 48, 27, 60, 41, 37, 16, 46, 35, 44, 21, 52, 32, 23, 11, 54, 26, 40, 15, 34, 20, 31, 10, 25, 14, 19, 9, 13, 8, 7, 6].map fun z => Value.int .u8 z).toArray
  { w0 with heap := h5 }
end Go.Proofs.YtdbdebcakemmbaaGreatDoor
