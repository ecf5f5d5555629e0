/- Printed by program: what each function of the call computes, as a Lean function, and that the call computes it (part 1). -/
import Derived.Test.YtiekchfipaiflaaGreatDoorMf
namespace Go.Proofs.YtiekchfipaiflaaGreatDoor
open Go
set_option linter.unusedVariables false
structure cell_span where
  from_ : Int
  to_ : Int
deriving DecidableEq
def zero_cell_span : cell_span := ⟨0, 0⟩
def enc_cell_span (x : cell_span) : List V := [.i .i32 x.from_, .i .i32 x.to_]
def dec_cell_span (vs : List V) : cell_span := ⟨vInt (vs.getD 0 .u), vInt (vs.getD 1 .u)⟩
def blk_cell_span (l : List cell_span) : Blk := ⟨cell_span, 2, enc_cell_span, dec_cell_span, zero_cell_span, l⟩

def g_none : List cell_span := [⟨0, 31⟩, ⟨127, 159⟩, ⟨768, 879⟩, ⟨55296, 57343⟩]
def g_wide : List cell_span := [⟨4352, 4447⟩, ⟨11904, 42191⟩, ⟨44032, 55203⟩, ⟨63744, 64255⟩, ⟨65072, 65135⟩, ⟨65280, 65376⟩, ⟨65504, 65510⟩, ⟨127744, 128591⟩, ⟨129280, 129535⟩, ⟨131072, 262141⟩]
def G0 : Glob := fun g => match g with
  | 0 => some (.rp cell_span 2 enc_cell_span zero_cell_span g_none 0 0)
  | 1 => some (.rp cell_span 2 enc_cell_span zero_cell_span g_wide 0 0)
  | _ => none

structure cell_Attr where
  Flags : Int
  Fg : Int
  Bg : Int
deriving DecidableEq
def zero_cell_Attr : cell_Attr := ⟨0, 0, 0⟩
def enc_cell_Attr (x : cell_Attr) : List V := [.i .i64 x.Flags, .i .i64 x.Fg, .i .i64 x.Bg]
def dec_cell_Attr (vs : List V) : cell_Attr := ⟨vInt (vs.getD 0 .u), vInt (vs.getD 1 .u), vInt (vs.getD 2 .u)⟩
def blk_cell_Attr (l : List cell_Attr) : Blk := ⟨cell_Attr, 3, enc_cell_Attr, dec_cell_Attr, zero_cell_Attr, l⟩

structure cell_Cell where
  Rune : Int
  Attr : cell_Attr
  Wide : Int
deriving DecidableEq
def zero_cell_Cell : cell_Cell := ⟨0, zero_cell_Attr, 0⟩
def enc_cell_Cell (x : cell_Cell) : List V := [.i .i32 x.Rune, .i .i64 x.Attr.Flags, .i .i64 x.Attr.Fg, .i .i64 x.Attr.Bg, .i .i64 x.Wide]
def dec_cell_Cell (vs : List V) : cell_Cell := ⟨vInt (vs.getD 0 .u), ⟨vInt (vs.getD 1 .u), vInt (vs.getD 2 .u), vInt (vs.getD 3 .u)⟩, vInt (vs.getD 4 .u)⟩
def blk_cell_Cell (l : List cell_Cell) : Blk := ⟨cell_Cell, 5, enc_cell_Cell, dec_cell_Cell, zero_cell_Cell, l⟩

structure screen_Screen where
  Rows : Int
  Cols : Int
  Cells : List cell_Cell
  Row : Int
  Col : Int
  Hidden : Bool
  Title : List Int
deriving DecidableEq
def zero_screen_Screen : screen_Screen := ⟨0, 0, [], 0, 0, false, []⟩
def enc_screen_Screen (x : screen_Screen) : List V := [.i .i64 x.Rows, .i .i64 x.Cols, .ro cell_Cell 5 enc_cell_Cell zero_cell_Cell x.Cells, .i .i64 x.Row, .i .i64 x.Col, .b x.Hidden, .s x.Title]
def dec_screen_Screen (_ : List V) : screen_Screen := zero_screen_Screen
def blk_screen_Screen (l : List screen_Screen) : Blk := ⟨screen_Screen, 7, enc_screen_Screen, dec_screen_Screen, zero_screen_Screen, l⟩

structure screen_ScreenO where
  Rows : Int
  Cols : Int
  Cells_n : Nat
  Cells : List cell_Cell
  Row : Int
  Col : Int
  Hidden : Bool
  Title : List Int
def B_screen_ScreenO (i0 : Nat) (x : screen_ScreenO) : Blk := svB 7 [.i .i64 x.Rows, .i .i64 x.Cols, .sl i0 0 x.Cells_n, .i .i64 x.Row, .i .i64 x.Col, .b x.Hidden, .s x.Title]

structure utf_Decoder where
  b : List Int
deriving DecidableEq
def zero_utf_Decoder : utf_Decoder := ⟨[]⟩
def enc_utf_Decoder (x : utf_Decoder) : List V := [.ro Int 1 (fun n => [.i .u8 n]) 0 x.b]
def dec_utf_Decoder (_ : List V) : utf_Decoder := zero_utf_Decoder
def blk_utf_Decoder (l : List utf_Decoder) : Blk := ⟨utf_Decoder, 1, enc_utf_Decoder, dec_utf_Decoder, zero_utf_Decoder, l⟩

structure utf_DecoderO where
  b_n : Nat
  b : List Int
def B_utf_DecoderO (i0 : Nat) (x : utf_DecoderO) : Blk := svB 1 [.sl i0 0 x.b_n]

structure esc_Event where
  Kind : Int
  Rune : Int
  Params : List Int
  Private : Int
  Inter : Int
  Final : Int
  Text : List Int
deriving DecidableEq
def zero_esc_Event : esc_Event := ⟨0, 0, [], 0, 0, 0, []⟩
def enc_esc_Event (x : esc_Event) : List V := [.i .i64 x.Kind, .i .i32 x.Rune, .ro Int 1 (fun n => [.i .i64 n]) 0 x.Params, .i .i32 x.Private, .i .i32 x.Inter, .i .i32 x.Final, .s x.Text]
def dec_esc_Event (_ : List V) : esc_Event := zero_esc_Event
def blk_esc_Event (l : List esc_Event) : Blk := ⟨esc_Event, 7, enc_esc_Event, dec_esc_Event, zero_esc_Event, l⟩

structure esc_Parser where
  state : Int
  params : List Int
  told : Bool
  private_ : Int
  inter : Int
  spoilt : Bool
  text : List Int
  out : List esc_Event
deriving DecidableEq
def zero_esc_Parser : esc_Parser := ⟨0, [], false, 0, 0, false, [], []⟩
def enc_esc_Parser (x : esc_Parser) : List V := [.i .i64 x.state, .ro Int 1 (fun n => [.i .i64 n]) 0 x.params, .b x.told, .i .i32 x.private_, .i .i32 x.inter, .b x.spoilt, .ro Int 1 (fun n => [.i .i32 n]) 0 x.text, .ro esc_Event 7 enc_esc_Event zero_esc_Event x.out]
def dec_esc_Parser (_ : List V) : esc_Parser := zero_esc_Parser
def blk_esc_Parser (l : List esc_Parser) : Blk := ⟨esc_Parser, 8, enc_esc_Parser, dec_esc_Parser, zero_esc_Parser, l⟩

structure esc_ParserO where
  state : Int
  params_n : Nat
  params : List Int
  told : Bool
  private_ : Int
  inter : Int
  spoilt : Bool
  text_n : Nat
  text : List Int
  out_n : Nat
  out : List esc_Event
def B_esc_ParserO (i0 : Nat) (i1 : Nat) (i2 : Nat) (x : esc_ParserO) : Blk := svB 8 [.i .i64 x.state, .sl i0 0 x.params_n, .b x.told, .i .i32 x.private_, .i .i32 x.inter, .b x.spoilt, .sl i1 0 x.text_n, .sl i2 0 x.out_n]

structure term_cursor where
  row : Int
  col : Int
  pending : Bool
deriving DecidableEq
def zero_term_cursor : term_cursor := ⟨0, 0, false⟩
def enc_term_cursor (x : term_cursor) : List V := [.i .i64 x.row, .i .i64 x.col, .b x.pending]
def dec_term_cursor (vs : List V) : term_cursor := ⟨vInt (vs.getD 0 .u), vInt (vs.getD 1 .u), vBool (vs.getD 2 .u)⟩
def blk_term_cursor (l : List term_cursor) : Blk := ⟨term_cursor, 3, enc_term_cursor, dec_term_cursor, zero_term_cursor, l⟩

structure term_kept where
  cursor : term_cursor
  pen : cell_Attr
  origin : Bool
deriving DecidableEq
def zero_term_kept : term_kept := ⟨zero_term_cursor, zero_cell_Attr, false⟩
def enc_term_kept (x : term_kept) : List V := [.i .i64 x.cursor.row, .i .i64 x.cursor.col, .b x.cursor.pending, .i .i64 x.pen.Flags, .i .i64 x.pen.Fg, .i .i64 x.pen.Bg, .b x.origin]
def dec_term_kept (vs : List V) : term_kept := ⟨⟨vInt (vs.getD 0 .u), vInt (vs.getD 1 .u), vBool (vs.getD 2 .u)⟩, ⟨vInt (vs.getD 3 .u), vInt (vs.getD 4 .u), vInt (vs.getD 5 .u)⟩, vBool (vs.getD 6 .u)⟩
def blk_term_kept (l : List term_kept) : Blk := ⟨term_kept, 7, enc_term_kept, dec_term_kept, zero_term_kept, l⟩

structure term_TermO where
  kept : term_kept
  shown : Int
  top : Int
  bottom : Int
  insert : Bool
  newline : Bool
  unwraps : Bool
  hidden : Bool
  title : List Int
  saved : term_kept
  rows : Int
  cols : Int
  signs : utf_DecoderO
  asks : esc_ParserO
  bells : Int
def B_term_TermO (i0 : Nat) (i1 : Nat) (x : term_TermO) : Blk := svB 31 [.i .i64 x.kept.cursor.row, .i .i64 x.kept.cursor.col, .b x.kept.cursor.pending, .i .i64 x.kept.pen.Flags, .i .i64 x.kept.pen.Fg, .i .i64 x.kept.pen.Bg, .b x.kept.origin, .nilp, .nilp, .i .i64 x.shown, .i .i64 x.top, .i .i64 x.bottom, .nilp, .b x.insert, .b x.newline, .b x.unwraps, .b x.hidden, .s x.title, .i .i64 x.saved.cursor.row, .i .i64 x.saved.cursor.col, .b x.saved.cursor.pending, .i .i64 x.saved.pen.Flags, .i .i64 x.saved.pen.Fg, .i .i64 x.saved.pen.Bg, .b x.saved.origin, .i .i64 x.rows, .i .i64 x.cols, .p i0 0 0, .p i1 0 0, .nils, .i .i64 x.bells]

structure term_TermO_1 where
  kept : term_kept
  shown : Int
  top : Int
  bottom : Int
  insert : Bool
  newline : Bool
  unwraps : Bool
  hidden : Bool
  title : List Int
  saved : term_kept
  rows : Int
  cols : Int
  signs : utf_DecoderO
  asks : esc_ParserO
  reply_n : Nat
  reply : List Int
  bells : Int
def B_term_TermO_1 (i0 : Nat) (i1 : Nat) (i2 : Nat) (x : term_TermO_1) : Blk := svB 31 [.i .i64 x.kept.cursor.row, .i .i64 x.kept.cursor.col, .b x.kept.cursor.pending, .i .i64 x.kept.pen.Flags, .i .i64 x.kept.pen.Fg, .i .i64 x.kept.pen.Bg, .b x.kept.origin, .nilp, .nilp, .i .i64 x.shown, .i .i64 x.top, .i .i64 x.bottom, .nilp, .b x.insert, .b x.newline, .b x.unwraps, .b x.hidden, .s x.title, .i .i64 x.saved.cursor.row, .i .i64 x.saved.cursor.col, .b x.saved.cursor.pending, .i .i64 x.saved.pen.Flags, .i .i64 x.saved.pen.Fg, .i .i64 x.saved.pen.Bg, .b x.saved.origin, .i .i64 x.rows, .i .i64 x.cols, .p i0 0 0, .p i1 0 0, .sl i2 0 x.reply_n, .i .i64 x.bells]

structure grid_Grid where
  rows : Int
  cols : Int
  l : List cell_Cell
deriving DecidableEq
def zero_grid_Grid : grid_Grid := ⟨0, 0, []⟩
def enc_grid_Grid (x : grid_Grid) : List V := [.i .i64 x.rows, .i .i64 x.cols, .ro cell_Cell 5 enc_cell_Cell zero_cell_Cell x.l]
def dec_grid_Grid (_ : List V) : grid_Grid := zero_grid_Grid
def blk_grid_Grid (l : List grid_Grid) : Blk := ⟨grid_Grid, 3, enc_grid_Grid, dec_grid_Grid, zero_grid_Grid, l⟩

structure grid_GridO where
  rows : Int
  cols : Int
  l_n : Nat
  l : List cell_Cell
def B_grid_GridO (i0 : Nat) (x : grid_GridO) : Blk := svB 3 [.i .i64 x.rows, .i .i64 x.cols, .sl i0 0 x.l_n]

structure tabs_Stops where
  at_ : List Bool
deriving DecidableEq
def zero_tabs_Stops : tabs_Stops := ⟨[]⟩
def enc_tabs_Stops (x : tabs_Stops) : List V := [.ro Bool 1 (fun n => [.b n]) false x.at_]
def dec_tabs_Stops (_ : List V) : tabs_Stops := zero_tabs_Stops
def blk_tabs_Stops (l : List tabs_Stops) : Blk := ⟨tabs_Stops, 1, enc_tabs_Stops, dec_tabs_Stops, zero_tabs_Stops, l⟩

structure tabs_StopsO where
def B_tabs_StopsO (x : tabs_StopsO) : Blk := svB 1 [.nils]

structure tabs_StopsO_1 where
  at_n : Nat
  at_ : List Bool
def B_tabs_StopsO_1 (i0 : Nat) (x : tabs_StopsO_1) : Blk := svB 1 [.sl i0 0 x.at_n]

structure term_TermO_2 where
  kept : term_kept
  grids_0 : grid_GridO
  grids_1 : grid_GridO
  shown : Int
  top : Int
  bottom : Int
  stops : tabs_StopsO_1
  insert : Bool
  newline : Bool
  unwraps : Bool
  hidden : Bool
  title : List Int
  saved : term_kept
  rows : Int
  cols : Int
  signs : utf_DecoderO
  asks : esc_ParserO
  reply_n : Nat
  reply : List Int
  bells : Int
def B_term_TermO_2 (i0 : Nat) (i1 : Nat) (i2 : Nat) (i3 : Nat) (i4 : Nat) (i5 : Nat) (x : term_TermO_2) : Blk := svB 31 [.i .i64 x.kept.cursor.row, .i .i64 x.kept.cursor.col, .b x.kept.cursor.pending, .i .i64 x.kept.pen.Flags, .i .i64 x.kept.pen.Fg, .i .i64 x.kept.pen.Bg, .b x.kept.origin, .p i0 0 0, .p i1 0 0, .i .i64 x.shown, .i .i64 x.top, .i .i64 x.bottom, .p i2 0 0, .b x.insert, .b x.newline, .b x.unwraps, .b x.hidden, .s x.title, .i .i64 x.saved.cursor.row, .i .i64 x.saved.cursor.col, .b x.saved.cursor.pending, .i .i64 x.saved.pen.Flags, .i .i64 x.saved.pen.Fg, .i .i64 x.saved.pen.Bg, .b x.saved.origin, .i .i64 x.rows, .i .i64 x.cols, .p i3 0 0, .p i4 0 0, .sl i5 0 x.reply_n, .i .i64 x.bells]

structure utf_DecoderO_1 where
def B_utf_DecoderO_1 (x : utf_DecoderO_1) : Blk := svB 1 [.nils]

structure esc_ParserO_1 where
  state : Int
  told : Bool
  private_ : Int
  inter : Int
  spoilt : Bool
  text_n : Nat
  text : List Int
  out_n : Nat
  out : List esc_Event
def B_esc_ParserO_1 (i0 : Nat) (i1 : Nat) (x : esc_ParserO_1) : Blk := svB 8 [.i .i64 x.state, .u, .b x.told, .i .i32 x.private_, .i .i32 x.inter, .b x.spoilt, .sl i0 0 x.text_n, .sl i1 0 x.out_n]

structure T24_uint8 where
  e0 : Int
  e1 : Int
  e2 : Int
  e3 : Int
  e4 : Int
  e5 : Int
  e6 : Int
  e7 : Int
  e8 : Int
  e9 : Int
  e10 : Int
  e11 : Int
  e12 : Int
  e13 : Int
  e14 : Int
  e15 : Int
  e16 : Int
  e17 : Int
  e18 : Int
  e19 : Int
  e20 : Int
  e21 : Int
  e22 : Int
  e23 : Int
deriving DecidableEq
def zero_T24_uint8 : T24_uint8 := ⟨0, 0, 0, 0, 0, 0, 0, 0, 0, 0, 0, 0, 0, 0, 0, 0, 0, 0, 0, 0, 0, 0, 0, 0⟩
def enc_T24_uint8 (x : T24_uint8) : List V := [.i .u8 x.e0, .i .u8 x.e1, .i .u8 x.e2, .i .u8 x.e3, .i .u8 x.e4, .i .u8 x.e5, .i .u8 x.e6, .i .u8 x.e7, .i .u8 x.e8, .i .u8 x.e9, .i .u8 x.e10, .i .u8 x.e11, .i .u8 x.e12, .i .u8 x.e13, .i .u8 x.e14, .i .u8 x.e15, .i .u8 x.e16, .i .u8 x.e17, .i .u8 x.e18, .i .u8 x.e19, .i .u8 x.e20, .i .u8 x.e21, .i .u8 x.e22, .i .u8 x.e23]
def dec_T24_uint8 (vs : List V) : T24_uint8 := ⟨vInt (vs.getD 0 .u), vInt (vs.getD 1 .u), vInt (vs.getD 2 .u), vInt (vs.getD 3 .u), vInt (vs.getD 4 .u), vInt (vs.getD 5 .u), vInt (vs.getD 6 .u), vInt (vs.getD 7 .u), vInt (vs.getD 8 .u), vInt (vs.getD 9 .u), vInt (vs.getD 10 .u), vInt (vs.getD 11 .u), vInt (vs.getD 12 .u), vInt (vs.getD 13 .u), vInt (vs.getD 14 .u), vInt (vs.getD 15 .u), vInt (vs.getD 16 .u), vInt (vs.getD 17 .u), vInt (vs.getD 18 .u), vInt (vs.getD 19 .u), vInt (vs.getD 20 .u), vInt (vs.getD 21 .u), vInt (vs.getD 22 .u), vInt (vs.getD 23 .u)⟩
def blk_T24_uint8 (l : List T24_uint8) : Blk := ⟨T24_uint8, 24, enc_T24_uint8, dec_T24_uint8, zero_T24_uint8, l⟩

structure strings_asciiSetO where
  e_0 : Bool
  e_1 : Bool
  e_2 : Bool
  e_3 : Bool
  e_4 : Bool
  e_5 : Bool
  e_6 : Bool
  e_7 : Bool
  e_8 : Bool
  e_9 : Bool
  e_10 : Bool
  e_11 : Bool
  e_12 : Bool
  e_13 : Bool
  e_14 : Bool
  e_15 : Bool
  e_16 : Bool
  e_17 : Bool
  e_18 : Bool
  e_19 : Bool
  e_20 : Bool
  e_21 : Bool
  e_22 : Bool
  e_23 : Bool
  e_24 : Bool
  e_25 : Bool
  e_26 : Bool
  e_27 : Bool
  e_28 : Bool
  e_29 : Bool
  e_30 : Bool
  e_31 : Bool
  e_32 : Bool
  e_33 : Bool
  e_34 : Bool
  e_35 : Bool
  e_36 : Bool
  e_37 : Bool
  e_38 : Bool
  e_39 : Bool
  e_40 : Bool
  e_41 : Bool
  e_42 : Bool
  e_43 : Bool
  e_44 : Bool
  e_45 : Bool
  e_46 : Bool
  e_47 : Bool
  e_48 : Bool
  e_49 : Bool
  e_50 : Bool
  e_51 : Bool
  e_52 : Bool
  e_53 : Bool
  e_54 : Bool
  e_55 : Bool
  e_56 : Bool
  e_57 : Bool
  e_58 : Bool
  e_59 : Bool
  e_60 : Bool
  e_61 : Bool
  e_62 : Bool
  e_63 : Bool
  e_64 : Bool
  e_65 : Bool
  e_66 : Bool
  e_67 : Bool
  e_68 : Bool
  e_69 : Bool
  e_70 : Bool
  e_71 : Bool
  e_72 : Bool
  e_73 : Bool
  e_74 : Bool
  e_75 : Bool
  e_76 : Bool
  e_77 : Bool
  e_78 : Bool
  e_79 : Bool
  e_80 : Bool
  e_81 : Bool
  e_82 : Bool
  e_83 : Bool
  e_84 : Bool
  e_85 : Bool
  e_86 : Bool
  e_87 : Bool
  e_88 : Bool
  e_89 : Bool
  e_90 : Bool
  e_91 : Bool
  e_92 : Bool
  e_93 : Bool
  e_94 : Bool
  e_95 : Bool
  e_96 : Bool
  e_97 : Bool
  e_98 : Bool
  e_99 : Bool
  e_100 : Bool
  e_101 : Bool
  e_102 : Bool
  e_103 : Bool
  e_104 : Bool
  e_105 : Bool
  e_106 : Bool
  e_107 : Bool
  e_108 : Bool
  e_109 : Bool
  e_110 : Bool
  e_111 : Bool
  e_112 : Bool
  e_113 : Bool
  e_114 : Bool
  e_115 : Bool
  e_116 : Bool
  e_117 : Bool
  e_118 : Bool
  e_119 : Bool
  e_120 : Bool
  e_121 : Bool
  e_122 : Bool
  e_123 : Bool
  e_124 : Bool
  e_125 : Bool
  e_126 : Bool
  e_127 : Bool
  e_128 : Bool
  e_129 : Bool
  e_130 : Bool
  e_131 : Bool
  e_132 : Bool
  e_133 : Bool
  e_134 : Bool
  e_135 : Bool
  e_136 : Bool
  e_137 : Bool
  e_138 : Bool
  e_139 : Bool
  e_140 : Bool
  e_141 : Bool
  e_142 : Bool
  e_143 : Bool
  e_144 : Bool
  e_145 : Bool
  e_146 : Bool
  e_147 : Bool
  e_148 : Bool
  e_149 : Bool
  e_150 : Bool
  e_151 : Bool
  e_152 : Bool
  e_153 : Bool
  e_154 : Bool
  e_155 : Bool
  e_156 : Bool
  e_157 : Bool
  e_158 : Bool
  e_159 : Bool
  e_160 : Bool
  e_161 : Bool
  e_162 : Bool
  e_163 : Bool
  e_164 : Bool
  e_165 : Bool
  e_166 : Bool
  e_167 : Bool
  e_168 : Bool
  e_169 : Bool
  e_170 : Bool
  e_171 : Bool
  e_172 : Bool
  e_173 : Bool
  e_174 : Bool
  e_175 : Bool
  e_176 : Bool
  e_177 : Bool
  e_178 : Bool
  e_179 : Bool
  e_180 : Bool
  e_181 : Bool
  e_182 : Bool
  e_183 : Bool
  e_184 : Bool
  e_185 : Bool
  e_186 : Bool
  e_187 : Bool
  e_188 : Bool
  e_189 : Bool
  e_190 : Bool
  e_191 : Bool
  e_192 : Bool
  e_193 : Bool
  e_194 : Bool
  e_195 : Bool
  e_196 : Bool
  e_197 : Bool
  e_198 : Bool
  e_199 : Bool
  e_200 : Bool
  e_201 : Bool
  e_202 : Bool
  e_203 : Bool
  e_204 : Bool
  e_205 : Bool
  e_206 : Bool
  e_207 : Bool
  e_208 : Bool
  e_209 : Bool
  e_210 : Bool
  e_211 : Bool
  e_212 : Bool
  e_213 : Bool
  e_214 : Bool
  e_215 : Bool
  e_216 : Bool
  e_217 : Bool
  e_218 : Bool
  e_219 : Bool
  e_220 : Bool
  e_221 : Bool
  e_222 : Bool
  e_223 : Bool
  e_224 : Bool
  e_225 : Bool
  e_226 : Bool
  e_227 : Bool
  e_228 : Bool
  e_229 : Bool
  e_230 : Bool
  e_231 : Bool
  e_232 : Bool
  e_233 : Bool
  e_234 : Bool
  e_235 : Bool
  e_236 : Bool
  e_237 : Bool
  e_238 : Bool
  e_239 : Bool
  e_240 : Bool
  e_241 : Bool
  e_242 : Bool
  e_243 : Bool
  e_244 : Bool
  e_245 : Bool
  e_246 : Bool
  e_247 : Bool
  e_248 : Bool
  e_249 : Bool
  e_250 : Bool
  e_251 : Bool
  e_252 : Bool
  e_253 : Bool
  e_254 : Bool
  e_255 : Bool
def B_strings_asciiSetO (x : strings_asciiSetO) : Blk := svB 256 [.b x.e_0, .b x.e_1, .b x.e_2, .b x.e_3, .b x.e_4, .b x.e_5, .b x.e_6, .b x.e_7, .b x.e_8, .b x.e_9, .b x.e_10, .b x.e_11, .b x.e_12, .b x.e_13, .b x.e_14, .b x.e_15, .b x.e_16, .b x.e_17, .b x.e_18, .b x.e_19, .b x.e_20, .b x.e_21, .b x.e_22, .b x.e_23, .b x.e_24, .b x.e_25, .b x.e_26, .b x.e_27, .b x.e_28, .b x.e_29, .b x.e_30, .b x.e_31, .b x.e_32, .b x.e_33, .b x.e_34, .b x.e_35, .b x.e_36, .b x.e_37, .b x.e_38, .b x.e_39, .b x.e_40, .b x.e_41, .b x.e_42, .b x.e_43, .b x.e_44, .b x.e_45, .b x.e_46, .b x.e_47, .b x.e_48, .b x.e_49, .b x.e_50, .b x.e_51, .b x.e_52, .b x.e_53, .b x.e_54, .b x.e_55, .b x.e_56, .b x.e_57, .b x.e_58, .b x.e_59, .b x.e_60, .b x.e_61, .b x.e_62, .b x.e_63, .b x.e_64, .b x.e_65, .b x.e_66, .b x.e_67, .b x.e_68, .b x.e_69, .b x.e_70, .b x.e_71, .b x.e_72, .b x.e_73, .b x.e_74, .b x.e_75, .b x.e_76, .b x.e_77, .b x.e_78, .b x.e_79, .b x.e_80, .b x.e_81, .b x.e_82, .b x.e_83, .b x.e_84, .b x.e_85, .b x.e_86, .b x.e_87, .b x.e_88, .b x.e_89, .b x.e_90, .b x.e_91, .b x.e_92, .b x.e_93, .b x.e_94, .b x.e_95, .b x.e_96, .b x.e_97, .b x.e_98, .b x.e_99, .b x.e_100, .b x.e_101, .b x.e_102, .b x.e_103, .b x.e_104, .b x.e_105, .b x.e_106, .b x.e_107, .b x.e_108, .b x.e_109, .b x.e_110, .b x.e_111, .b x.e_112, .b x.e_113, .b x.e_114, .b x.e_115, .b x.e_116, .b x.e_117, .b x.e_118, .b x.e_119, .b x.e_120, .b x.e_121, .b x.e_122, .b x.e_123, .b x.e_124, .b x.e_125, .b x.e_126, .b x.e_127, .b x.e_128, .b x.e_129, .b x.e_130, .b x.e_131, .b x.e_132, .b x.e_133, .b x.e_134, .b x.e_135, .b x.e_136, .b x.e_137, .b x.e_138, .b x.e_139, .b x.e_140, .b x.e_141, .b x.e_142, .b x.e_143, .b x.e_144, .b x.e_145, .b x.e_146, .b x.e_147, .b x.e_148, .b x.e_149, .b x.e_150, .b x.e_151, .b x.e_152, .b x.e_153, .b x.e_154, .b x.e_155, .b x.e_156, .b x.e_157, .b x.e_158, .b x.e_159, .b x.e_160, .b x.e_161, .b x.e_162, .b x.e_163, .b x.e_164, .b x.e_165, .b x.e_166, .b x.e_167, .b x.e_168, .b x.e_169, .b x.e_170, .b x.e_171, .b x.e_172, .b x.e_173, .b x.e_174, .b x.e_175, .b x.e_176, .b x.e_177, .b x.e_178, .b x.e_179, .b x.e_180, .b x.e_181, .b x.e_182, .b x.e_183, .b x.e_184, .b x.e_185, .b x.e_186, .b x.e_187, .b x.e_188, .b x.e_189, .b x.e_190, .b x.e_191, .b x.e_192, .b x.e_193, .b x.e_194, .b x.e_195, .b x.e_196, .b x.e_197, .b x.e_198, .b x.e_199, .b x.e_200, .b x.e_201, .b x.e_202, .b x.e_203, .b x.e_204, .b x.e_205, .b x.e_206, .b x.e_207, .b x.e_208, .b x.e_209, .b x.e_210, .b x.e_211, .b x.e_212, .b x.e_213, .b x.e_214, .b x.e_215, .b x.e_216, .b x.e_217, .b x.e_218, .b x.e_219, .b x.e_220, .b x.e_221, .b x.e_222, .b x.e_223, .b x.e_224, .b x.e_225, .b x.e_226, .b x.e_227, .b x.e_228, .b x.e_229, .b x.e_230, .b x.e_231, .b x.e_232, .b x.e_233, .b x.e_234, .b x.e_235, .b x.e_236, .b x.e_237, .b x.e_238, .b x.e_239, .b x.e_240, .b x.e_241, .b x.e_242, .b x.e_243, .b x.e_244, .b x.e_245, .b x.e_246, .b x.e_247, .b x.e_248, .b x.e_249, .b x.e_250, .b x.e_251, .b x.e_252, .b x.e_253, .b x.e_254, .b x.e_255]

/-! ### F34: function 34 tickertape/screen.fits -/
def F34 (f : Nat) (a0 : Int) (a1 : Int) : Option (Bool) :=
  some ((((decide (a0 ≥ 1) && decide (a0 ≤ 60)) && decide (a1 ≥ 1)) && decide (a1 ≤ 200)))
def v_F34 (a0 : Int) (a1 : Int) (y : Bool) : V :=
  .b y
def e_F34 (a0 : Int) (a1 : Int) (y : Bool) : Env :=
  [(4, ⟨none, .b y⟩)]
def x_F34 (a0 : Int) (a1 : Int) (y : Bool) : List (Option Blk) :=
  []
set_option maxRecDepth 100000 in
set_option maxHeartbeats 4000000 in
theorem F34_ok {f : Nat} {a0 : Int} {a1 : Int} {y : Bool} (h : F34 f a0 a1 = some y) :
    Spec Tryz.prog G0 34 [.i .i64 a0, .i .i64 a1] [] (v_F34 a0 a1 y) (x_F34 a0 a1 y) :=
  Spec.ofM (fn := Tryz.f34) (c := bodyOf Tryz.f34) (n := 19) (rs := Tryz.f34.results.toList) Tryz.func34 (by kernel_rfl) (by kernel_rfl) (by kernel_rfl) (by kernel_rfl) fun cx => by
  unfold F34 at h
  replace h := Option.some.inj h
  subst h
  exact WM.retE mixed (e_F34 a0 a1 ((((decide (a0 ≥ 1) && decide (a0 ≤ 60)) && decide (a1 ≥ 1)) && decide (a1 ≤ 200)))) [R_ [o_], R_ [o_, o_, o_, o_, o_, o_, o_, o_, o_, o_, o_, o_, o_, o_, o_]] [] (pc ((fun h => h : (decide (a0 ≥ 1) = true → decide (a0 ≥ 1) = true))) <| pc ((fun k2 => k2 : (decide (a0 ≥ 1) = true → decide (a0 ≥ 1) = true))) <| pc ((fun h => h : ((decide (a0 ≥ 1) && decide (a0 ≤ 60)) = true → (decide (a0 ≥ 1) && decide (a0 ≤ 60)) = true))) <| pc ((fun k2 => k2 : ((decide (a0 ≥ 1) && decide (a0 ≤ 60)) = true → (decide (a0 ≥ 1) && decide (a0 ≤ 60)) = true))) <| pc ((fun h => h : (((decide (a0 ≥ 1) && decide (a0 ≤ 60)) && decide (a1 ≥ 1)) = true → ((decide (a0 ≥ 1) && decide (a0 ≤ 60)) && decide (a1 ≥ 1)) = true))) <| pc ((fun k2 => k2 : (((decide (a0 ≥ 1) && decide (a0 ≤ 60)) && decide (a1 ≥ 1)) = true → ((decide (a0 ≥ 1) && decide (a0 ≤ 60)) && decide (a1 ≥ 1)) = true))) <| allP_nil) (by kernel_rfl) (by kernel_rfl)

/-! ### F13: function 13 tickertape/cell.Blank -/
def F13 (f : Nat) (a0 : cell_Attr) : Option (cell_Cell) :=
  some ((cell_Cell.mk 32 (cell_Attr.mk 0 0 a0.Bg) 0))
def v_F13 (a0 : cell_Attr) (y : cell_Cell) : V :=
  .agg [.i .i32 y.Rune, .i .i64 y.Attr.Flags, .i .i64 y.Attr.Fg, .i .i64 y.Attr.Bg, .i .i64 y.Wide]
def e_F13 (a0 : cell_Attr) (y : cell_Cell) : Env :=
  [(2, ⟨none, .p 0 0 0⟩)]
def x_F13 (a0 : cell_Attr) (y : cell_Cell) : List (Option Blk) :=
  [some (svB 5 [.i .i32 y.Rune, .i .i64 y.Attr.Flags, .i .i64 y.Attr.Fg, .i .i64 y.Attr.Bg, .i .i64 y.Wide])]
set_option maxRecDepth 100000 in
set_option maxHeartbeats 4000000 in
theorem F13_ok {f : Nat} {a0 : cell_Attr} {y : cell_Cell} (h : F13 f a0 = some y) :
    Spec Tryz.prog G0 13 [.agg [.i .i64 a0.Flags, .i .i64 a0.Fg, .i .i64 a0.Bg]] [] (v_F13 a0 y) (x_F13 a0 y) :=
  Spec.ofM (fn := Tryz.f13) (c := bodyOf Tryz.f13) (n := 7) (rs := Tryz.f13.results.toList) Tryz.func13 (by kernel_rfl) (by kernel_rfl) (by kernel_rfl) (by kernel_rfl) fun cx => by
  unfold F13 at h
  replace h := Option.some.inj h
  subst h
  exact WM.retE mixed (e_F13 a0 ((cell_Cell.mk 32 (cell_Attr.mk 0 0 a0.Bg) 0))) [R_ [.op (.fresh 0 (svB 3 [.i .i64 a0.Flags, .i .i64 a0.Fg, .i .i64 a0.Bg])), .op (.fresh 1 (svB 5 [.i .i32 0, .i .i64 0, .i .i64 0, .i .i64 0, .i .i64 0]))], R_ [o_, o_, o_, o_, o_]] [some 1] (pc zlt1 <| pc zlt1 <| allP_nil) (by kernel_rfl) (by kernel_rfl)

/-! ### F91: function 91 math/bits.Mul64 -/
def F91 (f : Nat) (a0 : Int) (a1 : Int) : Option (Int × Int) :=
  chk (IntKind.has .u64 (Int.fdiv a0 (2 ^ 32))) <|
  chk (IntKind.has .u64 (Int.fdiv a1 (2 ^ 32))) <|
  chk (IntKind.has .u64 (Int.fdiv (IntKind.wrap .u64 ((bitA .and .u64 a0 4294967295) * (bitA .and .u64 a1 4294967295))) (2 ^ 32))) <|
  chk (IntKind.has .u64 (Int.fdiv (IntKind.wrap .u64 ((IntKind.wrap .u64 ((Int.fdiv a0 (2 ^ 32)) * (bitA .and .u64 a1 4294967295))) + (Int.fdiv (IntKind.wrap .u64 ((bitA .and .u64 a0 4294967295) * (bitA .and .u64 a1 4294967295))) (2 ^ 32)))) (2 ^ 32))) <|
  chk (IntKind.has .u64 (Int.fdiv (IntKind.wrap .u64 ((bitA .and .u64 (IntKind.wrap .u64 ((IntKind.wrap .u64 ((Int.fdiv a0 (2 ^ 32)) * (bitA .and .u64 a1 4294967295))) + (Int.fdiv (IntKind.wrap .u64 ((bitA .and .u64 a0 4294967295) * (bitA .and .u64 a1 4294967295))) (2 ^ 32)))) 4294967295) + (IntKind.wrap .u64 ((bitA .and .u64 a0 4294967295) * (Int.fdiv a1 (2 ^ 32)))))) (2 ^ 32))) <|
  some (((IntKind.wrap .u64 ((IntKind.wrap .u64 ((IntKind.wrap .u64 ((Int.fdiv a0 (2 ^ 32)) * (Int.fdiv a1 (2 ^ 32)))) + (Int.fdiv (IntKind.wrap .u64 ((IntKind.wrap .u64 ((Int.fdiv a0 (2 ^ 32)) * (bitA .and .u64 a1 4294967295))) + (Int.fdiv (IntKind.wrap .u64 ((bitA .and .u64 a0 4294967295) * (bitA .and .u64 a1 4294967295))) (2 ^ 32)))) (2 ^ 32)))) + (Int.fdiv (IntKind.wrap .u64 ((bitA .and .u64 (IntKind.wrap .u64 ((IntKind.wrap .u64 ((Int.fdiv a0 (2 ^ 32)) * (bitA .and .u64 a1 4294967295))) + (Int.fdiv (IntKind.wrap .u64 ((bitA .and .u64 a0 4294967295) * (bitA .and .u64 a1 4294967295))) (2 ^ 32)))) 4294967295) + (IntKind.wrap .u64 ((bitA .and .u64 a0 4294967295) * (Int.fdiv a1 (2 ^ 32)))))) (2 ^ 32)))), (IntKind.wrap .u64 (a0 * a1))))
def v_F91 (a0 : Int) (a1 : Int) (y : Int × Int) : V :=
  .tup [.i .u64 y.1, .i .u64 y.2]
def e_F91 (a0 : Int) (a1 : Int) (y : Int × Int) : Env :=
  [(4, ⟨none, .i .u64 y.1⟩), (5, ⟨none, .i .u64 y.2⟩)]
def x_F91 (a0 : Int) (a1 : Int) (y : Int × Int) : List (Option Blk) :=
  []
set_option maxRecDepth 100000 in
set_option maxHeartbeats 4000000 in
theorem F91_ok {f : Nat} {a0 : Int} {a1 : Int} {y : Int × Int} (h : F91 f a0 a1 = some y) :
    Spec Tryz.prog G0 91 [.i .u64 a0, .i .u64 a1] [] (v_F91 a0 a1 y) (x_F91 a0 a1 y) :=
  Spec.ofM (fn := Tryz.f91) (c := bodyOf Tryz.f91) (n := 51) (rs := Tryz.f91.results.toList) Tryz.func91 (by kernel_rfl) (by kernel_rfl) (by kernel_rfl) (by kernel_rfl) fun cx => by
  unfold F91 at h
  obtain ⟨h1, h⟩ := of_chk h
  obtain ⟨h2, h⟩ := of_chk h
  obtain ⟨h3, h⟩ := of_chk h
  obtain ⟨h4, h⟩ := of_chk h
  obtain ⟨h5, h⟩ := of_chk h
  replace h := Option.some.inj h
  subst h
  exact WM.retE mixed (e_F91 a0 a1 (((IntKind.wrap .u64 ((IntKind.wrap .u64 ((IntKind.wrap .u64 ((Int.fdiv a0 (2 ^ 32)) * (Int.fdiv a1 (2 ^ 32)))) + (Int.fdiv (IntKind.wrap .u64 ((IntKind.wrap .u64 ((Int.fdiv a0 (2 ^ 32)) * (bitA .and .u64 a1 4294967295))) + (Int.fdiv (IntKind.wrap .u64 ((bitA .and .u64 a0 4294967295) * (bitA .and .u64 a1 4294967295))) (2 ^ 32)))) (2 ^ 32)))) + (Int.fdiv (IntKind.wrap .u64 ((bitA .and .u64 (IntKind.wrap .u64 ((IntKind.wrap .u64 ((Int.fdiv a0 (2 ^ 32)) * (bitA .and .u64 a1 4294967295))) + (Int.fdiv (IntKind.wrap .u64 ((bitA .and .u64 a0 4294967295) * (bitA .and .u64 a1 4294967295))) (2 ^ 32)))) 4294967295) + (IntKind.wrap .u64 ((bitA .and .u64 a0 4294967295) * (Int.fdiv a1 (2 ^ 32)))))) (2 ^ 32)))), (IntKind.wrap .u64 (a0 * a1))))) [R_ [o_, o_], R_ [o_, o_, o_], R_ [o_, o_, o_], R_ [o_, o_, o_], R_ [o_, o_, o_], R_ [o_, o_, o_, o_], R_ [o_, o_, o_, o_, o_, o_, o_], R_ [o_, o_, o_], R_ [o_, o_, o_], R_ [o_, o_, o_, o_, o_, o_], R_ [o_, o_, o_, o_, o_, o_, o_, o_, o_], R_ [o_, o_, o_, o_]] [] (pc ((by decide : (0 : Int) ≤ 32)) <| pc h1 <| pc ((by decide : (0 : Int) ≤ 32)) <| pc h2 <| pc ((by decide : (0 : Int) ≤ 32)) <| pc h3 <| pc ((by decide : (0 : Int) ≤ 32)) <| pc h4 <| pc ((by decide : (0 : Int) ≤ 32)) <| pc h5 <| allP_nil) (by kernel_rfl) (by kernel_rfl)

/-! ### F51: function 51 math/bits.Mul -/
def F51 (f : Nat) (a0 : Int) (a1 : Int) : Option (Int × Int) :=
  bnd (F91 f a0 a1) fun r1 =>
  some ((r1.1, r1.2))
def v_F51 (a0 : Int) (a1 : Int) (y : Int × Int) : V :=
  .tup [.i .u64 y.1, .i .u64 y.2]
def e_F51 (a0 : Int) (a1 : Int) (y : Int × Int) : Env :=
  [(4, ⟨none, .i .u64 y.1⟩), (5, ⟨none, .i .u64 y.2⟩)]
def x_F51 (a0 : Int) (a1 : Int) (y : Int × Int) : List (Option Blk) :=
  []
set_option maxRecDepth 100000 in
set_option maxHeartbeats 4000000 in
theorem F51_ok {f : Nat} {a0 : Int} {a1 : Int} {y : Int × Int} (h : F51 f a0 a1 = some y) :
    Spec Tryz.prog G0 51 [.i .u64 a0, .i .u64 a1] [] (v_F51 a0 a1 y) (x_F51 a0 a1 y) :=
  Spec.ofM (fn := Tryz.f51) (c := bodyOf Tryz.f51) (n := 30) (rs := Tryz.f51.results.toList) Tryz.func51 (by kernel_rfl) (by kernel_rfl) (by kernel_rfl) (by kernel_rfl) fun cx => by
  unfold F51 at h
  obtain ⟨r1, h1, h⟩ := of_bnd h
  replace h := Option.some.inj h
  subst h
  exact WM.retE mixed (e_F51 a0 a1 ((r1.1, r1.2))) [R_ [o_, o_], F_, R_ [o_, o_, c_ (mkCall Tryz.call91 (F91_ok h1) [] (by kernel_rfl) (by kernel_rfl)), o_, o_, o_, o_, o_], R_ [o_, o_, o_, o_]] [] (pc ((rfl : false = false)) <| allP_nil) (by kernel_rfl) (by kernel_rfl)

/-! ### F35: function 35 slices.Repeat[[]tickertape/cell.Cell,tickertape/cell.Cell] -/
def F35_p3_b (f : Nat) (g3 : (List cell_Cell) → Int → Option (Nat × List cell_Cell)) (r1 : Int × Int) (a0 : List cell_Cell) (x7_3 : List cell_Cell) (x8_3 : Int) : Option (Nat × List cell_Cell) :=
  ifb (decide (x8_3 < ((r1.2.toNat : Nat) : Int))) (
    chk (0 ≤ x8_3) <|
    chk (x8_3 ≤ ((r1.2.toNat : Nat) : Int)) <|
    chk (((0 + x8_3.toNat) + (r1.2.toNat - x8_3.toNat)) ≤ x7_3.length) <|
    chk ((0 + (x8_3.toNat - 0)) ≤ x7_3.length) <|
    chk (inR (x8_3 + ((Nat.min ((((x7_3.drop 0).take (x8_3.toNat - 0))).length) (r1.2.toNat - x8_3.toNat)) : Int))) <|
    g3 (putAt x7_3 (0 + x8_3.toNat) ((((x7_3.drop 0).take (x8_3.toNat - 0)).take (Nat.min ((((x7_3.drop 0).take (x8_3.toNat - 0))).length) (r1.2.toNat - x8_3.toNat))).map fun y => y)) (x8_3 + ((Nat.min ((((x7_3.drop 0).take (x8_3.toNat - 0))).length) (r1.2.toNat - x8_3.toNat)) : Int))) (
    some ((r1.2.toNat, x7_3)))
def F35_p3 (f : Nat) (r1 : Int × Int) (a0 : List cell_Cell) : Nat → (List cell_Cell) → Int → Option (Nat × List cell_Cell)
  | 0, _, _ => none
  | j + 1, x7_3, x8_3 => F35_p3_b f (F35_p3 f r1 a0 j) r1 a0 x7_3 x8_3
def F35_p2 (f : Nat) (r1 : Int × Int) (a0_n : Nat) (a0 : List cell_Cell) : Option (Nat × List cell_Cell) :=
  chk (inR r1.2) <|
  chk (0 ≤ r1.2) <|
  chk (r1.2 ≤ r1.2) <|
  chk ((40 : Int) * r1.2 ≤ 281474976710656) <|
  chk ((0 + r1.2.toNat) ≤ ((List.replicate r1.2.toNat (cell_Cell.mk 0 (cell_Attr.mk 0 0 0) 0))).length) <|
  chk ((0 + a0_n) ≤ a0.length) <|
  F35_p3 f r1 a0 f (putAt (List.replicate r1.2.toNat (cell_Cell.mk 0 (cell_Attr.mk 0 0 0) 0)) 0 ((((a0.drop 0).take a0_n).take (Nat.min ((((a0.drop 0).take a0_n)).length) r1.2.toNat)).map fun y => y)) ((Nat.min ((((a0.drop 0).take a0_n)).length) r1.2.toNat) : Int)
def F35_p1 (f : Nat) (a0_n : Nat) (a1 : Int) (a0 : List cell_Cell) : Option (Nat × List cell_Cell) :=
  bnd (F51 f (IntKind.wrap .u64 ((a0_n : Nat) : Int)) (IntKind.wrap .u64 a1)) fun r1 =>
  ifb ((decide (r1.1 > 0) || decide (r1.2 > 9223372036854775807))) (
    none) (
    F35_p2 f r1 a0_n a0)
def F35 (f : Nat) (a0_n : Nat) (a0 : List cell_Cell) (a1 : Int) : Option (Nat × List cell_Cell) :=
  ifb (decide (a1 < 0)) (
    none) (
    F35_p1 f a0_n a1 a0)
def v_F35 (a0_n : Nat) (a0 : List cell_Cell) (a1 : Int) (y : Nat × List cell_Cell) : V :=
  .sl 1 0 y.1
def e_F35 (a0_n : Nat) (a0 : List cell_Cell) (a1 : Int) (y : Nat × List cell_Cell) : Env :=
  [(4, ⟨none, .sl 1 0 y.1⟩)]
def x_F35 (a0_n : Nat) (a0 : List cell_Cell) (a1 : Int) (y : Nat × List cell_Cell) : List (Option Blk) :=
  [some (blk_cell_Cell a0), some (blk_cell_Cell y.2)]
set_option maxRecDepth 100000 in
set_option maxHeartbeats 4000000 in
theorem F35_p3_bok {cx : Cx} {f : Nat} {I3 : Act → World → Prop} {g3 : (List cell_Cell) → Int → Option (Nat × List cell_Cell)} {a0_n : Nat} {a0 : List cell_Cell} {a1 : Int} {r1 : Int × Int} {x7_3 : List cell_Cell} {x8_3 : Int} {y : Nat × List cell_Cell} (hg3 : ∀ (x7_3 : List cell_Cell) (x8_3 : Int), g3 x7_3 x8_3 = some y → ∀ a w, cx.In G0 48 1 [(7, ⟨none, .sl 1 0 r1.2.toNat⟩), (8, ⟨none, .i .i64 x8_3⟩)] [some (blk_cell_Cell a0), some (blk_cell_Cell x7_3)] a w → I3 a w) (h : F35_p3_b f g3 r1 a0 x7_3 x8_3 = some y) :
    WM Tryz.prog G0 48 1 Tryz.f35.results.toList (v_F35 a0_n a0 a1 y) (x_F35 a0_n a0 a1 y) cx (nav [.r, .r, .f, .r, .r, .f, .r, .r, .l I3] [.code (bodyOf Tryz.f35)]) [(7, ⟨none, .sl 1 0 r1.2.toNat⟩), (8, ⟨none, .i .i64 x8_3⟩)] [some (blk_cell_Cell a0), some (blk_cell_Cell x7_3)] := by
  unfold F35_p3_b at h
  rcases of_ifb h with ⟨h10, h⟩ | ⟨h10, h⟩
  · obtain ⟨h11, h⟩ := of_chk h
    obtain ⟨h12, h⟩ := of_chk h
    obtain ⟨h13, h⟩ := of_chk h
    obtain ⟨h14, h⟩ := of_chk h
    obtain ⟨h15, h⟩ := of_chk h
    exact WM.cut mixed [R_ [o_, o_, o_, o_], T_, R_ [o_, o_, o_, o_, o_, o_, o_, o_, o_, o_]] [some 0, some 1] (pc ((h10 : decide (x8_3 < ((r1.2.toNat : Nat) : Int)) = true)) <| pc h11 <| pc h12 <| pc h11 <| pc h12 <| pc h13 <| pc h14 <| pc h15 <| allP_nil) (WM.again (k := (nav [.r, .r, .f, .r, .r, .f, .r, .r, .n] [.code (bodyOf Tryz.f35)]).tail) (hg3 _ _ h)) (by kernel_rfl)
  · replace h := Option.some.inj h
    subst h
    exact WM.retE mixed (e_F35 a0_n a0 a1 ((r1.2.toNat, x7_3))) [R_ [o_, o_, o_, o_], F_, R_ [o_, o_]] [some 0, some 1] (pc ((h10 : decide (x8_3 < ((r1.2.toNat : Nat) : Int)) = false)) <| allP_nil) (by kernel_rfl) (by kernel_rfl)
set_option maxRecDepth 100000 in
set_option maxHeartbeats 4000000 in
theorem F35_p3_ok {cx : Cx} {f : Nat} {a0_n : Nat} {a0 : List cell_Cell} {a1 : Int} {r1 : Int × Int} {x7_3 : List cell_Cell} {x8_3 : Int} {j : Nat} {y : Nat × List cell_Cell} (h : F35_p3 f r1 a0 j x7_3 x8_3 = some y) :
    WM Tryz.prog G0 48 1 Tryz.f35.results.toList (v_F35 a0_n a0 a1 y) (x_F35 a0_n a0 a1 y) cx (nav [.r, .r, .f, .r, .r, .f, .r, .r, .n] [.code (bodyOf Tryz.f35)]) [(7, ⟨none, .sl 1 0 r1.2.toNat⟩), (8, ⟨none, .i .i64 x8_3⟩)] [some (blk_cell_Cell a0), some (blk_cell_Cell x7_3)] := by
  refine WM.loopN (X := List cell_Cell × Int) (y := y) (kb := fun I3 => (nav [.r, .r, .f, .r, .r, .f, .r, .r, .l I3] [.code (bodyOf Tryz.f35)])) (by intro I; kernel_rfl) (fun j x => F35_p3 f r1 a0 j x.1 x.2) (fun x => [(7, ⟨none, .sl 1 0 r1.2.toNat⟩), (8, ⟨none, .i .i64 x.2⟩)]) (fun x => [some (blk_cell_Cell a0), some (blk_cell_Cell x.1)]) ?_ (j := j) (x := (x7_3, x8_3)) h
  intro j x I3 h hI
  cases j with
  | zero => cases h
  | succ j => exact F35_p3_bok (fun x0 x1 => hI j (x0, x1) (Nat.lt_succ_self j)) h
set_option maxRecDepth 100000 in
set_option maxHeartbeats 4000000 in
theorem F35_p2_ok {cx : Cx} {f : Nat} {a0_n : Nat} {a0 : List cell_Cell} {a1 : Int} {r1 : Int × Int} {y : Nat × List cell_Cell} (h : F35_p2 f r1 a0_n a0 = some y) :
    WM Tryz.prog G0 48 1 Tryz.f35.results.toList (v_F35 a0_n a0 a1 y) (x_F35 a0_n a0 a1 y) cx (nav [.r, .r, .f, .r, .r, .f, .n] [.code (bodyOf Tryz.f35)]) [(0, ⟨none, .sl 0 0 a0_n⟩), (6, ⟨none, .i .u64 r1.2⟩)] [some (blk_cell_Cell a0)] := by
  unfold F35_p2 at h
  obtain ⟨h4, h⟩ := of_chk h
  obtain ⟨h5, h⟩ := of_chk h
  obtain ⟨h6, h⟩ := of_chk h
  obtain ⟨h7, h⟩ := of_chk h
  obtain ⟨h8, h⟩ := of_chk h
  obtain ⟨h9, h⟩ := of_chk h
  exact WM.cut mixed [R_ [o_, o_, .op (.fresh 1 (blk_cell_Cell [])), o_], R_ [o_, o_, o_, o_]] [some 0, some 1] (pc h4 <| pc h5 <| pc h6 <| pc h7 <| pc h4 <| pc h8 <| pc h9 <| allP_nil) (F35_p3_ok h) (by kernel_rfl)
set_option maxRecDepth 100000 in
set_option maxHeartbeats 4000000 in
theorem F35_p1_ok {cx : Cx} {f : Nat} {a0_n : Nat} {a0 : List cell_Cell} {a1 : Int} {y : Nat × List cell_Cell} (h : F35_p1 f a0_n a1 a0 = some y) :
    WM Tryz.prog G0 48 1 Tryz.f35.results.toList (v_F35 a0_n a0 a1 y) (x_F35 a0_n a0 a1 y) cx (nav [.r, .r, .f, .n] [.code (bodyOf Tryz.f35)]) [(0, ⟨none, .sl 0 0 a0_n⟩), (1, ⟨none, .i .i64 a1⟩)] [some (blk_cell_Cell a0)] := by
  unfold F35_p1 at h
  obtain ⟨r1, h2, h⟩ := of_bnd h
  rcases of_ifb h with ⟨h3, h⟩ | ⟨h3, h⟩
  · cases h
  · exact WM.cut mixed [R_ [o_, o_, o_, o_, o_, c_ (mkCall Tryz.call51 (F51_ok h2) [] (by kernel_rfl) (by kernel_rfl)), o_, o_, o_, o_, o_], R_ [o_, o_, o_, o_, o_, o_], F_] [some 0] (pc ((fun h => h : ((!(decide (r1.1 > 0))) = true → (!(decide (r1.1 > 0))) = true))) <| pc ((fun k2 => (not_t k2) : (decide (r1.1 > 0) = false → (!(decide (r1.1 > 0))) = true))) <| pc ((h3 : (decide (r1.1 > 0) || decide (r1.2 > 9223372036854775807)) = false)) <| allP_nil) (F35_p2_ok h) (by kernel_rfl)
set_option maxRecDepth 100000 in
set_option maxHeartbeats 4000000 in
theorem F35_ok {f : Nat} {a0_n : Nat} {a0 : List cell_Cell} {a1 : Int} {y : Nat × List cell_Cell} (h : F35 f a0_n a0 a1 = some y) :
    Spec Tryz.prog G0 35 [.sl 0 0 a0_n, .i .i64 a1] [some (blk_cell_Cell a0)] (v_F35 a0_n a0 a1 y) (x_F35 a0_n a0 a1 y) :=
  Spec.ofM (fn := Tryz.f35) (c := bodyOf Tryz.f35) (n := 48) (rs := Tryz.f35.results.toList) Tryz.func35 (by kernel_rfl) (by kernel_rfl) (by kernel_rfl) (by kernel_rfl) fun cx => by
  unfold F35 at h
  rcases of_ifb h with ⟨h1, h⟩ | ⟨h1, h⟩
  · cases h
  · exact WM.cut mixed [R_ [o_], R_ [o_, o_], F_] [some 0] (pc ((h1 : decide (a1 < 0) = false)) <| allP_nil) (F35_p1_ok h) (by kernel_rfl)

/-! ### F18: function 18 tickertape/screen.Blank -/
def F18 (f : Nat) (a0 : Int) (a1 : Int) : Option (screen_ScreenO × Int) :=
  bnd (F34 f a0 a1) fun r1 =>
  ifb ((!r1)) (
    some (((screen_ScreenO.mk 0 0 0 [] 0 0 false []), 1))) (
    bnd (F13 f (cell_Attr.mk 0 0 0)) fun r2 =>
    bnd (F35 f 1 [r2] (wr (a0 * a1))) fun r3 =>
    some (((screen_ScreenO.mk a0 a1 r3.1 r3.2 0 0 false []), 0)))
def v_F18 (a0 : Int) (a1 : Int) (y : screen_ScreenO × Int) : V :=
  .tup [.agg [.i .i64 y.1.Rows, .i .i64 y.1.Cols, .sl 1 0 y.1.Cells_n, .i .i64 y.1.Row, .i .i64 y.1.Col, .b y.1.Hidden, .s y.1.Title], .i .i64 y.2]
def e_F18 (a0 : Int) (a1 : Int) (y : screen_ScreenO × Int) : Env :=
  [(4, ⟨none, .p 0 0 0⟩), (5, ⟨none, .i .i64 y.2⟩)]
def x_F18 (a0 : Int) (a1 : Int) (y : screen_ScreenO × Int) : List (Option Blk) :=
  [some (B_screen_ScreenO 1 y.1), some (blk_cell_Cell y.1.Cells)]
set_option maxRecDepth 100000 in
set_option maxHeartbeats 4000000 in
theorem F18_ok {f : Nat} {a0 : Int} {a1 : Int} {y : screen_ScreenO × Int} (h : F18 f a0 a1 = some y) :
    Spec Tryz.prog G0 18 [.i .i64 a0, .i .i64 a1] [] (v_F18 a0 a1 y) (x_F18 a0 a1 y) :=
  Spec.ofM (fn := Tryz.f18) (c := bodyOf Tryz.f18) (n := 21) (rs := Tryz.f18.results.toList) Tryz.func18 (by kernel_rfl) (by kernel_rfl) (by kernel_rfl) (by kernel_rfl) fun cx => by
  unfold F18 at h
  obtain ⟨r1, h1, h⟩ := of_bnd h
  rcases of_ifb h with ⟨h2, h⟩ | ⟨h2, h⟩
  · replace h := Option.some.inj h
    subst h
    exact WM.retE mixed (e_F18 a0 a1 (((screen_ScreenO.mk 0 0 0 [] 0 0 false []), 1))) [R_ [.op (.fresh 0 (svB 7 [.i .i64 0, .i .i64 0, .nils, .i .i64 0, .i .i64 0, .b false, .s []])), o_], R_ [o_, o_, c_ (mkCall Tryz.call34 (F34_ok h1) [] (by kernel_rfl) (by kernel_rfl)), o_], T_, R_ [o_, o_, o_]] [some 0, none] (pc ((h2 : (!r1) = true)) <| pc zlt1 <| allP_nil) (by kernel_rfl) (by kernel_rfl)
  · obtain ⟨r2, h3, h⟩ := of_bnd h
    obtain ⟨r3, h4, h⟩ := of_bnd h
    replace h := Option.some.inj h
    subst h
    exact WM.retE mixed (e_F18 a0 a1 (((screen_ScreenO.mk a0 a1 r3.1 r3.2 0 0 false []), 0))) [R_ [.op (.fresh 0 (svB 7 [.i .i64 0, .i .i64 0, .nils, .i .i64 0, .i .i64 0, .b false, .s []])), o_], R_ [o_, o_, c_ (mkCall Tryz.call34 (F34_ok h1) [] (by kernel_rfl) (by kernel_rfl)), o_], F_, R_ [o_, o_, o_, c_ (mkCall Tryz.call13 (F13_ok h3) [1] (by kernel_rfl) (by kernel_rfl)), .op (.fresh 2 (blk_cell_Cell [r2])), o_, o_, o_, c_ (mkCall Tryz.call35 (F35_ok h4) [2, 3] (by kernel_rfl) (by kernel_rfl)), o_, o_, o_]] [some 0, some 3] (pc ((h2 : (!r1) = false)) <| pc zlt1 <| allP_nil) (by kernel_rfl) (by kernel_rfl)

/-! ### F22: function 22 tickertape/utf.New -/
def F22 (f : Nat) : Option (utf_DecoderO) :=
  some ((utf_DecoderO.mk 0 []))
def v_F22  (y : utf_DecoderO) : V :=
  .p 0 0 0
def e_F22  (y : utf_DecoderO) : Env :=
  [(0, ⟨none, .p 0 0 0⟩)]
def x_F22  (y : utf_DecoderO) : List (Option Blk) :=
  [some (B_utf_DecoderO 1 y), some (intB .u8 y.b)]
set_option maxRecDepth 100000 in
set_option maxHeartbeats 4000000 in
theorem F22_ok {f : Nat}  {y : utf_DecoderO} (h : F22 f = some y) :
    Spec Tryz.prog G0 22 [] [] (v_F22 y) (x_F22 y) :=
  Spec.ofM (fn := Tryz.f22) (c := bodyOf Tryz.f22) (n := 3) (rs := Tryz.f22.results.toList) Tryz.func22 (by kernel_rfl) (by kernel_rfl) (by kernel_rfl) (by kernel_rfl) fun cx => by
  unfold F22 at h
  replace h := Option.some.inj h
  subst h
  exact WM.retE mixed (e_F22 ((utf_DecoderO.mk 0 []))) [R_ [o_], R_ [o_, .op (.fresh 0 (svB 1 [.nils])), o_]] [some 0, none] (allP_nil) (by kernel_rfl) (by kernel_rfl)

/-! ### F23: function 23 tickertape/esc.New -/
def F23 (f : Nat) : Option (esc_ParserO) :=
  some ((esc_ParserO.mk 0 0 [] false 0 0 false 0 [] 0 []))
def v_F23  (y : esc_ParserO) : V :=
  .p 0 0 0
def e_F23  (y : esc_ParserO) : Env :=
  [(0, ⟨none, .p 0 0 0⟩)]
def x_F23  (y : esc_ParserO) : List (Option Blk) :=
  [some (B_esc_ParserO 1 2 3 y), some (intB .i64 y.params), some (intB .i32 y.text), some (blk_esc_Event y.out)]
set_option maxRecDepth 100000 in
set_option maxHeartbeats 4000000 in
theorem F23_ok {f : Nat}  {y : esc_ParserO} (h : F23 f = some y) :
    Spec Tryz.prog G0 23 [] [] (v_F23 y) (x_F23 y) :=
  Spec.ofM (fn := Tryz.f23) (c := bodyOf Tryz.f23) (n := 3) (rs := Tryz.f23.results.toList) Tryz.func23 (by kernel_rfl) (by kernel_rfl) (by kernel_rfl) (by kernel_rfl) fun cx => by
  unfold F23 at h
  replace h := Option.some.inj h
  subst h
  exact WM.retE mixed (e_F23 ((esc_ParserO.mk 0 0 [] false 0 0 false 0 [] 0 []))) [R_ [o_], R_ [o_, .op (.fresh 0 (svB 8 [.i .i64 0, .nils, .b false, .i .i32 0, .i .i32 0, .b false, .nils, .nils])), o_]] [some 0, none, none, none] (allP_nil) (by kernel_rfl) (by kernel_rfl)

/-! ### F57: function 57 tickertape/grid.fits -/
def F57 (f : Nat) (a0 : Int) (a1 : Int) : Option (Bool) :=
  some ((((decide (a0 ≥ 1) && decide (a0 ≤ 60)) && decide (a1 ≥ 1)) && decide (a1 ≤ 200)))
def v_F57 (a0 : Int) (a1 : Int) (y : Bool) : V :=
  .b y
def e_F57 (a0 : Int) (a1 : Int) (y : Bool) : Env :=
  [(4, ⟨none, .b y⟩)]
def x_F57 (a0 : Int) (a1 : Int) (y : Bool) : List (Option Blk) :=
  []
set_option maxRecDepth 100000 in
set_option maxHeartbeats 4000000 in
theorem F57_ok {f : Nat} {a0 : Int} {a1 : Int} {y : Bool} (h : F57 f a0 a1 = some y) :
    Spec Tryz.prog G0 57 [.i .i64 a0, .i .i64 a1] [] (v_F57 a0 a1 y) (x_F57 a0 a1 y) :=
  Spec.ofM (fn := Tryz.f57) (c := bodyOf Tryz.f57) (n := 19) (rs := Tryz.f57.results.toList) Tryz.func57 (by kernel_rfl) (by kernel_rfl) (by kernel_rfl) (by kernel_rfl) fun cx => by
  unfold F57 at h
  replace h := Option.some.inj h
  subst h
  exact WM.retE mixed (e_F57 a0 a1 ((((decide (a0 ≥ 1) && decide (a0 ≤ 60)) && decide (a1 ≥ 1)) && decide (a1 ≤ 200)))) [R_ [o_], R_ [o_, o_, o_, o_, o_, o_, o_, o_, o_, o_, o_, o_, o_, o_, o_]] [] (pc ((fun h => h : (decide (a0 ≥ 1) = true → decide (a0 ≥ 1) = true))) <| pc ((fun k2 => k2 : (decide (a0 ≥ 1) = true → decide (a0 ≥ 1) = true))) <| pc ((fun h => h : ((decide (a0 ≥ 1) && decide (a0 ≤ 60)) = true → (decide (a0 ≥ 1) && decide (a0 ≤ 60)) = true))) <| pc ((fun k2 => k2 : ((decide (a0 ≥ 1) && decide (a0 ≤ 60)) = true → (decide (a0 ≥ 1) && decide (a0 ≤ 60)) = true))) <| pc ((fun h => h : (((decide (a0 ≥ 1) && decide (a0 ≤ 60)) && decide (a1 ≥ 1)) = true → ((decide (a0 ≥ 1) && decide (a0 ≤ 60)) && decide (a1 ≥ 1)) = true))) <| pc ((fun k2 => k2 : (((decide (a0 ≥ 1) && decide (a0 ≤ 60)) && decide (a1 ≥ 1)) = true → ((decide (a0 ≥ 1) && decide (a0 ≤ 60)) && decide (a1 ≥ 1)) = true))) <| allP_nil) (by kernel_rfl) (by kernel_rfl)

/-! ### F58: function 58 tickertape/grid.blank -/
def F58 (f : Nat) : Option (cell_Cell) :=
  bnd (F13 f (cell_Attr.mk 0 0 0)) fun r1 =>
  some (r1)
def v_F58  (y : cell_Cell) : V :=
  .agg [.i .i32 y.Rune, .i .i64 y.Attr.Flags, .i .i64 y.Attr.Fg, .i .i64 y.Attr.Bg, .i .i64 y.Wide]
def e_F58  (y : cell_Cell) : Env :=
  [(0, ⟨none, .p 0 0 0⟩)]
def x_F58  (y : cell_Cell) : List (Option Blk) :=
  [some (svB 5 [.i .i32 y.Rune, .i .i64 y.Attr.Flags, .i .i64 y.Attr.Fg, .i .i64 y.Attr.Bg, .i .i64 y.Wide])]
set_option maxRecDepth 100000 in
set_option maxHeartbeats 4000000 in
theorem F58_ok {f : Nat}  {y : cell_Cell} (h : F58 f = some y) :
    Spec Tryz.prog G0 58 [] [] (v_F58 y) (x_F58 y) :=
  Spec.ofM (fn := Tryz.f58) (c := bodyOf Tryz.f58) (n := 3) (rs := Tryz.f58.results.toList) Tryz.func58 (by kernel_rfl) (by kernel_rfl) (by kernel_rfl) (by kernel_rfl) fun cx => by
  unfold F58 at h
  obtain ⟨r1, h1, h⟩ := of_bnd h
  replace h := Option.some.inj h
  subst h
  exact WM.retE mixed (e_F58 (r1)) [R_ [.op (.fresh 0 (svB 5 [.i .i32 0, .i .i64 0, .i .i64 0, .i .i64 0, .i .i64 0]))], R_ [o_, c_ (mkCall Tryz.call13 (F13_ok h1) [1] (by kernel_rfl) (by kernel_rfl)), o_]] [some 0] (pc zlt1 <| allP_nil) (by kernel_rfl) (by kernel_rfl)

/-! ### F38: function 38 tickertape/grid.New -/
def F38 (f : Nat) (a0 : Int) (a1 : Int) : Option ((Int) ⊕ (grid_GridO × Int)) :=
  bnd (F57 f a0 a1) fun r1 =>
  ifb ((!r1)) (
    some (.inl (1))) (
    bnd (F58 f) fun r2 =>
    bnd (F35 f 1 [r2] (wr (a0 * a1))) fun r3 =>
    some (.inr (((grid_GridO.mk a0 a1 r3.1 r3.2), 0))))
def v_F38 (a0 : Int) (a1 : Int) (y : (Int) ⊕ (grid_GridO × Int)) : V :=
  match y with
  | .inl (y) => .tup [.nilp, .i .i64 y]
  | .inr (y) => .tup [.p 0 0 0, .i .i64 y.2]
def e_F38 (a0 : Int) (a1 : Int) (y : (Int) ⊕ (grid_GridO × Int)) : Env :=
  match y with
  | .inl (y) => [(4, ⟨none, .nilp⟩), (5, ⟨none, .i .i64 y⟩)]
  | .inr (y) => [(4, ⟨none, .p 0 0 0⟩), (5, ⟨none, .i .i64 y.2⟩)]
def x_F38 (a0 : Int) (a1 : Int) (y : (Int) ⊕ (grid_GridO × Int)) : List (Option Blk) :=
  match y with
  | .inl (y) => []
  | .inr (y) => [some (B_grid_GridO 1 y.1), some (blk_cell_Cell y.1.l)]
set_option maxRecDepth 100000 in
set_option maxHeartbeats 4000000 in
theorem F38_ok {f : Nat} {a0 : Int} {a1 : Int} {y : (Int) ⊕ (grid_GridO × Int)} (h : F38 f a0 a1 = some y) :
    Spec Tryz.prog G0 38 [.i .i64 a0, .i .i64 a1] [] (v_F38 a0 a1 y) (x_F38 a0 a1 y) :=
  Spec.ofM (fn := Tryz.f38) (c := bodyOf Tryz.f38) (n := 20) (rs := Tryz.f38.results.toList) Tryz.func38 (by kernel_rfl) (by kernel_rfl) (by kernel_rfl) (by kernel_rfl) fun cx => by
  unfold F38 at h
  obtain ⟨r1, h1, h⟩ := of_bnd h
  rcases of_ifb h with ⟨h2, h⟩ | ⟨h2, h⟩
  · replace h := Option.some.inj h
    subst h
    exact WM.retE mixed (e_F38 a0 a1 (.inl (1))) [R_ [o_, o_], R_ [o_, o_, c_ (mkCall Tryz.call57 (F57_ok h1) [] (by kernel_rfl) (by kernel_rfl)), o_], T_, R_ [o_, o_]] [] (pc ((h2 : (!r1) = true)) <| allP_nil) (by kernel_rfl) (by kernel_rfl)
  · obtain ⟨r2, h3, h⟩ := of_bnd h
    obtain ⟨r3, h4, h⟩ := of_bnd h
    replace h := Option.some.inj h
    subst h
    exact WM.retE mixed (e_F38 a0 a1 (.inr (((grid_GridO.mk a0 a1 r3.1 r3.2), 0)))) [R_ [o_, o_], R_ [o_, o_, c_ (mkCall Tryz.call57 (F57_ok h1) [] (by kernel_rfl) (by kernel_rfl)), o_], F_, R_ [o_, o_, c_ (mkCall Tryz.call58 (F58_ok h3) [0] (by kernel_rfl) (by kernel_rfl)), .op (.fresh 1 (blk_cell_Cell [r2])), o_, o_, o_, c_ (mkCall Tryz.call35 (F35_ok h4) [1, 2] (by kernel_rfl) (by kernel_rfl)), o_, .op (.fresh 3 (svB 3 [.i .i64 a0, .i .i64 a1, .sl 2 0 r3.1])), o_, o_]] [some 3, some 2] (pc ((h2 : (!r1) = false)) <| allP_nil) (by kernel_rfl) (by kernel_rfl)

/-! ### F59: function 59 (*tickertape/tabs.Stops).Resize -/
def F59_p1_b (f : Nat) (g1 : tabs_StopsO_1 → Int → Option (tabs_StopsO_1 × Int)) (a1 : Int) (a0_1 : tabs_StopsO_1) (x5_1 : Int) : Option (tabs_StopsO_1 × Int) :=
  ifb (decide (x5_1 < a1)) (
    chk ((decide (x5_1 > 0) = true → (8 : Int) ≠ 0)) <|
    chk (a0_1.at_n = a0_1.at_.length) <|
    chk (((((a0_1.at_n + 1)) * 1 : Nat) : Int) ≤ 140737488355328) <|
    chk (inR (x5_1 + 1)) <|
    g1 (tabs_StopsO_1.mk (a0_1.at_n + 1) (a0_1.at_ ++ [(decide (x5_1 > 0) && decide ((Int.tmod x5_1 8) = 0))])) (x5_1 + 1)) (
    some ((a0_1, 0)))
def F59_p1 (f : Nat) (a1 : Int) : Nat → tabs_StopsO_1 → Int → Option (tabs_StopsO_1 × Int)
  | 0, _, _ => none
  | j + 1, a0_1, x5_1 => F59_p1_b f (F59_p1 f a1 j) a1 a0_1 x5_1
def F59 (f : Nat) (a0 : tabs_StopsO) (a1 : Int) : Option (tabs_StopsO_1 × Int) :=
  ifb ((decide (a1 < 1) || decide (a1 > 200))) (
    some (((tabs_StopsO_1.mk 0 []), 1))) (
    chk (0 ≤ (imin 0 a1)) <|
    chk ((imin 0 a1) ≤ 0) <|
    F59_p1 f a1 f (tabs_StopsO_1.mk 0 []) 0)
def v_F59 (a0 : tabs_StopsO) (a1 : Int) (y : tabs_StopsO_1 × Int) : V :=
  .i .i64 y.2
def e_F59 (a0 : tabs_StopsO) (a1 : Int) (y : tabs_StopsO_1 × Int) : Env :=
  [(4, ⟨none, .i .i64 y.2⟩)]
def x_F59 (a0 : tabs_StopsO) (a1 : Int) (y : tabs_StopsO_1 × Int) : List (Option Blk) :=
  [some (B_tabs_StopsO_1 1 y.1), some (boolB y.1.at_)]
set_option maxRecDepth 100000 in
set_option maxHeartbeats 4000000 in
theorem F59_p1_bok {cx : Cx} {f : Nat} {I1 : Act → World → Prop} {g1 : tabs_StopsO_1 → Int → Option (tabs_StopsO_1 × Int)} {a0 : tabs_StopsO} {a1 : Int} {a0_1 : tabs_StopsO_1} {x5_1 : Int} {y : tabs_StopsO_1 × Int} (hg1 : ∀ (a0_1 : tabs_StopsO_1) (x5_1 : Int), g1 a0_1 x5_1 = some y → ∀ a w, cx.In G0 53 1 [(0, ⟨none, .p 0 0 0⟩), (1, ⟨none, .i .i64 a1⟩), (5, ⟨none, .i .i64 x5_1⟩)] [some (B_tabs_StopsO_1 1 a0_1), some (boolB a0_1.at_)] a w → I1 a w) (h : F59_p1_b f g1 a1 a0_1 x5_1 = some y) :
    WM Tryz.prog G0 53 1 Tryz.f59.results.toList (v_F59 a0 a1 y) (x_F59 a0 a1 y) cx (nav [.r, .r, .f, .r, .r, .l I1] [.code (bodyOf Tryz.f59)]) [(0, ⟨none, .p 0 0 0⟩), (1, ⟨none, .i .i64 a1⟩), (5, ⟨none, .i .i64 x5_1⟩)] [some (B_tabs_StopsO_1 1 a0_1), some (boolB a0_1.at_)] := by
  unfold F59_p1_b at h
  rcases of_ifb h with ⟨h4, h⟩ | ⟨h4, h⟩
  · obtain ⟨h5, h⟩ := of_chk h
    obtain ⟨h6, h⟩ := of_chk h
    obtain ⟨h7, h⟩ := of_chk h
    obtain ⟨h8, h⟩ := of_chk h
    exact WM.cut mixed [R_ [o_, o_, o_], T_, R_ [o_, o_, o_, o_, o_, o_, o_, o_, o_, o_, o_, o_, .op (.fresh 2 (boolB [(decide (x5_1 > 0) && decide ((Int.tmod x5_1 8) = 0))])), .op (.fresh 3 (intB .u8 [])), o_, o_, o_], R_ [o_, o_, o_]] [some 0, some 3] (pc ((h4 : decide (x5_1 < a1) = true)) <| pc zlt1 <| pc ((fun h => h : (decide (x5_1 > 0) = true → decide (x5_1 > 0) = true))) <| pc h5 <| pc ((fun h => h : (decide (x5_1 > 0) = true → decide (x5_1 > 0) = true))) <| pc ((fun k2 => k2 : (decide (x5_1 > 0) = true → decide (x5_1 > 0) = true))) <| pc h6 <| pc h7 <| pc ((by decide : 1 ≤ 1)) <| pc zlt1 <| pc h8 <| allP_nil) (WM.again (k := (nav [.r, .r, .f, .r, .r, .n] [.code (bodyOf Tryz.f59)]).tail) (hg1 _ _ h)) (by kernel_rfl)
  · replace h := Option.some.inj h
    subst h
    exact WM.retE mixed (e_F59 a0 a1 ((a0_1, 0))) [R_ [o_, o_, o_], F_, R_ [o_]] [some 0, some 1] (pc ((h4 : decide (x5_1 < a1) = false)) <| allP_nil) (by kernel_rfl) (by kernel_rfl)
set_option maxRecDepth 100000 in
set_option maxHeartbeats 4000000 in
theorem F59_p1_ok {cx : Cx} {f : Nat} {a0 : tabs_StopsO} {a1 : Int} {a0_1 : tabs_StopsO_1} {x5_1 : Int} {j : Nat} {y : tabs_StopsO_1 × Int} (h : F59_p1 f a1 j a0_1 x5_1 = some y) :
    WM Tryz.prog G0 53 1 Tryz.f59.results.toList (v_F59 a0 a1 y) (x_F59 a0 a1 y) cx (nav [.r, .r, .f, .r, .r, .n] [.code (bodyOf Tryz.f59)]) [(0, ⟨none, .p 0 0 0⟩), (1, ⟨none, .i .i64 a1⟩), (5, ⟨none, .i .i64 x5_1⟩)] [some (B_tabs_StopsO_1 1 a0_1), some (boolB a0_1.at_)] := by
  refine WM.loopN (X := tabs_StopsO_1 × Int) (y := y) (kb := fun I1 => (nav [.r, .r, .f, .r, .r, .l I1] [.code (bodyOf Tryz.f59)])) (by intro I; kernel_rfl) (fun j x => F59_p1 f a1 j x.1 x.2) (fun x => [(0, ⟨none, .p 0 0 0⟩), (1, ⟨none, .i .i64 a1⟩), (5, ⟨none, .i .i64 x.2⟩)]) (fun x => [some (B_tabs_StopsO_1 1 x.1), some (boolB x.1.at_)]) ?_ (j := j) (x := (a0_1, x5_1)) h
  intro j x I1 h hI
  cases j with
  | zero => cases h
  | succ j => exact F59_p1_bok (fun x0 x1 => hI j (x0, x1) (Nat.lt_succ_self j)) h
set_option maxRecDepth 100000 in
set_option maxHeartbeats 4000000 in
theorem F59_ok {f : Nat} {a0 : tabs_StopsO} {a1 : Int} {y : tabs_StopsO_1 × Int} (h : F59 f a0 a1 = some y) :
    Spec Tryz.prog G0 59 [.p 0 0 0, .i .i64 a1] [some (B_tabs_StopsO a0)] (v_F59 a0 a1 y) (x_F59 a0 a1 y) :=
  Spec.ofM (fn := Tryz.f59) (c := bodyOf Tryz.f59) (n := 53) (rs := Tryz.f59.results.toList) Tryz.func59 (by kernel_rfl) (by kernel_rfl) (by kernel_rfl) (by kernel_rfl) fun cx => by
  unfold F59 at h
  rcases of_ifb h with ⟨h1, h⟩ | ⟨h1, h⟩
  · replace h := Option.some.inj h
    subst h
    exact WM.retE mixed (e_F59 a0 a1 (((tabs_StopsO_1.mk 0 []), 1))) [R_ [o_], R_ [o_, o_, o_, o_, o_, o_], T_, R_ [o_]] [some 0, none] (pc ((fun h => h : ((!(decide (a1 < 1))) = true → (!(decide (a1 < 1))) = true))) <| pc ((fun k2 => (not_t k2) : (decide (a1 < 1) = false → (!(decide (a1 < 1))) = true))) <| pc ((h1 : (decide (a1 < 1) || decide (a1 > 200)) = true)) <| allP_nil) (by kernel_rfl) (by kernel_rfl)
  · obtain ⟨h2, h⟩ := of_chk h
    obtain ⟨h3, h⟩ := of_chk h
    exact WM.cut mixed [R_ [o_], R_ [o_, o_, o_, o_, o_, o_], F_, R_ [o_, o_, o_, o_, o_, o_, o_, o_, o_, o_, o_, o_, o_, o_, o_, o_], R_ [o_, o_, o_, o_, o_, o_]] [some 0, none] (pc ((fun h => h : ((!(decide (a1 < 1))) = true → (!(decide (a1 < 1))) = true))) <| pc ((fun k2 => (not_t k2) : (decide (a1 < 1) = false → (!(decide (a1 < 1))) = true))) <| pc ((h1 : (decide (a1 < 1) || decide (a1 > 200)) = false)) <| pc zlt1 <| pc zlt1 <| pc h2 <| pc h3 <| pc zlt1 <| pc zlt1 <| allP_nil) (F59_p1_ok h) (by kernel_rfl)

/-! ### F39: function 39 tickertape/tabs.New -/
def F39 (f : Nat) (a0 : Int) : Option ((Int) ⊕ (tabs_StopsO_1 × Int)) :=
  bnd (F59 f tabs_StopsO.mk a0) fun r1 =>
  ifb ((!(decide (r1.2 = 0)))) (
    some (.inl (r1.2))) (
    some (.inr ((r1.1, 0))))
def v_F39 (a0 : Int) (y : (Int) ⊕ (tabs_StopsO_1 × Int)) : V :=
  match y with
  | .inl (y) => .tup [.nilp, .i .i64 y]
  | .inr (y) => .tup [.p 0 0 0, .i .i64 y.2]
def e_F39 (a0 : Int) (y : (Int) ⊕ (tabs_StopsO_1 × Int)) : Env :=
  match y with
  | .inl (y) => [(2, ⟨none, .nilp⟩), (3, ⟨none, .i .i64 y⟩)]
  | .inr (y) => [(2, ⟨none, .p 0 0 0⟩), (3, ⟨none, .i .i64 y.2⟩)]
def x_F39 (a0 : Int) (y : (Int) ⊕ (tabs_StopsO_1 × Int)) : List (Option Blk) :=
  match y with
  | .inl (y) => []
  | .inr (y) => [some (B_tabs_StopsO_1 1 y.1), some (boolB y.1.at_)]
set_option maxRecDepth 100000 in
set_option maxHeartbeats 4000000 in
theorem F39_ok {f : Nat} {a0 : Int} {y : (Int) ⊕ (tabs_StopsO_1 × Int)} (h : F39 f a0 = some y) :
    Spec Tryz.prog G0 39 [.i .i64 a0] [] (v_F39 a0 y) (x_F39 a0 y) :=
  Spec.ofM (fn := Tryz.f39) (c := bodyOf Tryz.f39) (n := 15) (rs := Tryz.f39.results.toList) Tryz.func39 (by kernel_rfl) (by kernel_rfl) (by kernel_rfl) (by kernel_rfl) fun cx => by
  unfold F39 at h
  obtain ⟨r1, h1, h⟩ := of_bnd h
  rcases of_ifb h with ⟨h2, h⟩ | ⟨h2, h⟩
  · replace h := Option.some.inj h
    subst h
    exact WM.retE mixed (e_F39 a0 (.inl (r1.2))) [R_ [o_, o_], R_ [o_, .op (.fresh 0 (svB 1 [.nils])), o_], R_ [o_, o_, c_ (mkCall Tryz.call59 (F59_ok h1) [0, 1] (by kernel_rfl) (by kernel_rfl)), o_], R_ [o_, o_], T_, R_ [o_, o_, o_]] [] (pc ((h2 : (!(decide (r1.2 = 0))) = true)) <| allP_nil) (by kernel_rfl) (by kernel_rfl)
  · replace h := Option.some.inj h
    subst h
    exact WM.retE mixed (e_F39 a0 (.inr ((r1.1, 0)))) [R_ [o_, o_], R_ [o_, .op (.fresh 0 (svB 1 [.nils])), o_], R_ [o_, o_, c_ (mkCall Tryz.call59 (F59_ok h1) [0, 1] (by kernel_rfl) (by kernel_rfl)), o_], R_ [o_, o_], F_, R_ [o_, o_, o_]] [some 0, some 1] (pc ((h2 : (!(decide (r1.2 = 0))) = false)) <| allP_nil) (by kernel_rfl) (by kernel_rfl)

/-! ### F24: function 24 (*tickertape/term.Term).reset -/
def F24 (f : Nat) (a0 : term_TermO) : Option (term_TermO_2) :=
  chk (inR (a0.rows - 1)) <|
  bnd (F38 f a0.rows a0.cols) fun r1 =>
  sm r1 (fun r2 =>
    none) (fun r3 =>
    bnd (F38 f a0.rows a0.cols) fun r4 =>
    sm r4 (fun r5 =>
      none) (fun r6 =>
      bnd (F39 f a0.cols) fun r7 =>
      sm r7 (fun r8 =>
        none) (fun r9 =>
        some ((term_TermO_2.mk (term_kept.mk (term_cursor.mk 0 0 false) (cell_Attr.mk 0 0 0) false) r3.1 r6.1 0 0 (a0.rows - 1) r9.1 false false false false [] (term_kept.mk (term_cursor.mk 0 0 false) (cell_Attr.mk 0 0 0) false) a0.rows a0.cols a0.signs a0.asks 0 [] a0.bells)))))
def v_F24 (a0 : term_TermO) (y : term_TermO_2) : V :=
  .tup []
def e_F24 (a0 : term_TermO) (y : term_TermO_2) : Env :=
  []
def x_F24 (a0 : term_TermO) (y : term_TermO_2) : List (Option Blk) :=
  [some (B_term_TermO_2 7 9 11 1 3 13 y), some (B_utf_DecoderO 2 y.signs), some (intB .u8 y.signs.b), some (B_esc_ParserO 4 5 6 y.asks), some (intB .i64 y.asks.params), some (intB .i32 y.asks.text), some (blk_esc_Event y.asks.out), some (B_grid_GridO 8 y.grids_0), some (blk_cell_Cell y.grids_0.l), some (B_grid_GridO 10 y.grids_1), some (blk_cell_Cell y.grids_1.l), some (B_tabs_StopsO_1 12 y.stops), some (boolB y.stops.at_), some (intB .u8 y.reply)]
set_option maxRecDepth 100000 in
set_option maxHeartbeats 4000000 in
theorem F24_ok {f : Nat} {a0 : term_TermO} {y : term_TermO_2} (h : F24 f a0 = some y) :
    Spec Tryz.prog G0 24 [.p 0 0 0] [some (B_term_TermO 1 3 a0), some (B_utf_DecoderO 2 a0.signs), some (intB .u8 a0.signs.b), some (B_esc_ParserO 4 5 6 a0.asks), some (intB .i64 a0.asks.params), some (intB .i32 a0.asks.text), some (blk_esc_Event a0.asks.out)] (v_F24 a0 y) (x_F24 a0 y) :=
  Spec.ofM (fn := Tryz.f24) (c := bodyOf Tryz.f24) (n := 46) (rs := Tryz.f24.results.toList) Tryz.func24 (by kernel_rfl) (by kernel_rfl) (by kernel_rfl) (by kernel_rfl) fun cx => by
  unfold F24 at h
  obtain ⟨h1, h⟩ := of_chk h
  obtain ⟨r1, h2, h⟩ := of_bnd h
  rcases of_sm h with ⟨r2, rfl, h⟩ | ⟨r3, rfl, h⟩
  · cases h
  · obtain ⟨r4, h3, h⟩ := of_bnd h
    rcases of_sm h with ⟨r5, rfl, h⟩ | ⟨r6, rfl, h⟩
    · cases h
    · obtain ⟨r7, h4, h⟩ := of_bnd h
      rcases of_sm h with ⟨r8, rfl, h⟩ | ⟨r9, rfl, h⟩
      · cases h
      · replace h := Option.some.inj h
        subst h
        exact WM.retE mixed (e_F24 a0 ((term_TermO_2.mk (term_kept.mk (term_cursor.mk 0 0 false) (cell_Attr.mk 0 0 0) false) r3.1 r6.1 0 0 (a0.rows - 1) r9.1 false false false false [] (term_kept.mk (term_cursor.mk 0 0 false) (cell_Attr.mk 0 0 0) false) a0.rows a0.cols a0.signs a0.asks 0 [] a0.bells))) [R_ [o_, o_, o_, o_, o_, o_, o_, o_, o_, o_], R_ [o_], .un 64, R_ [o_], T_, R_ [o_, o_], R_ [o_, o_, o_, o_, o_, o_, o_, o_, o_, o_, c_ (mkCall Tryz.call38 (F38_ok h2) [7, 8] (by kernel_rfl) (by kernel_rfl)), o_, o_, o_, o_, o_, o_, o_, o_], R_ [o_, o_], R_ [o_], T_, R_ [o_, o_], R_ [o_, o_, o_, o_, o_, o_, o_, o_, o_, o_, c_ (mkCall Tryz.call38 (F38_ok h3) [9, 10] (by kernel_rfl) (by kernel_rfl)), o_, o_, o_, o_, o_, o_, o_, o_], R_ [o_, o_], R_ [o_], F_, R_ [o_, o_, o_, o_, o_, c_ (mkCall Tryz.call39 (F39_ok h4) [11, 12] (by kernel_rfl) (by kernel_rfl)), o_, o_, o_, o_, o_, o_, o_]] [some 0, some 1, some 2, some 3, some 4, some 5, some 6, some 7, some 8, some 9, some 10, some 11, some 12, none] (pc zlt1 <| pc h1 <| pc zlt1 <| pc ((rfl : true = true)) <| pc zlt1 <| pc zlt1 <| pc ((by decide : (0 : Int) ≤ 0)) <| pc ((by decide : (0 : Int) < 2)) <| pc zlt1 <| pc ((by decide : inR 1)) <| pc ((rfl : true = true)) <| pc zlt1 <| pc zlt1 <| pc ((by decide : (0 : Int) ≤ 1)) <| pc ((by decide : (1 : Int) < 2)) <| pc zlt1 <| pc ((by decide : inR 2)) <| pc ((rfl : false = false)) <| pc zlt1 <| pc zlt1 <| allP_nil) (by kernel_rfl) (by kernel_rfl)

/-! ### F9: function 9 tickertape/term.New -/
def F9 (f : Nat) (a0 : Int) (a1 : Int) : Option ((Int) ⊕ (term_TermO_2 × Int)) :=
  bnd (F18 f a0 a1) fun r1 =>
  ifb ((!(decide (r1.2 = 0)))) (
    some (.inl (1))) (
    bnd (F22 f) fun r2 =>
    bnd (F23 f) fun r3 =>
    bnd (F24 f (term_TermO.mk (term_kept.mk (term_cursor.mk 0 0 false) (cell_Attr.mk 0 0 0) false) 0 0 0 false false false false [] (term_kept.mk (term_cursor.mk 0 0 false) (cell_Attr.mk 0 0 0) false) a0 a1 r2 r3 0)) fun r4 =>
    some (.inr ((r4, 0))))
def v_F9 (a0 : Int) (a1 : Int) (y : (Int) ⊕ (term_TermO_2 × Int)) : V :=
  match y with
  | .inl (y) => .tup [.nilp, .i .i64 y]
  | .inr (y) => .tup [.p 0 0 0, .i .i64 y.2]
def e_F9 (a0 : Int) (a1 : Int) (y : (Int) ⊕ (term_TermO_2 × Int)) : Env :=
  match y with
  | .inl (y) => [(4, ⟨none, .nilp⟩), (5, ⟨none, .i .i64 y⟩)]
  | .inr (y) => [(4, ⟨none, .p 0 0 0⟩), (5, ⟨none, .i .i64 y.2⟩)]
def x_F9 (a0 : Int) (a1 : Int) (y : (Int) ⊕ (term_TermO_2 × Int)) : List (Option Blk) :=
  match y with
  | .inl (y) => []
  | .inr (y) => [some (B_term_TermO_2 1 3 5 7 9 13 y.1), some (B_grid_GridO 2 y.1.grids_0), some (blk_cell_Cell y.1.grids_0.l), some (B_grid_GridO 4 y.1.grids_1), some (blk_cell_Cell y.1.grids_1.l), some (B_tabs_StopsO_1 6 y.1.stops), some (boolB y.1.stops.at_), some (B_utf_DecoderO 8 y.1.signs), some (intB .u8 y.1.signs.b), some (B_esc_ParserO 10 11 12 y.1.asks), some (intB .i64 y.1.asks.params), some (intB .i32 y.1.asks.text), some (blk_esc_Event y.1.asks.out), some (intB .u8 y.1.reply)]
set_option maxRecDepth 100000 in
set_option maxHeartbeats 4000000 in
theorem F9_ok {f : Nat} {a0 : Int} {a1 : Int} {y : (Int) ⊕ (term_TermO_2 × Int)} (h : F9 f a0 a1 = some y) :
    Spec Tryz.prog G0 9 [.i .i64 a0, .i .i64 a1] [] (v_F9 a0 a1 y) (x_F9 a0 a1 y) :=
  Spec.ofM (fn := Tryz.f9) (c := bodyOf Tryz.f9) (n := 26) (rs := Tryz.f9.results.toList) Tryz.func9 (by kernel_rfl) (by kernel_rfl) (by kernel_rfl) (by kernel_rfl) fun cx => by
  unfold F9 at h
  obtain ⟨r1, h1, h⟩ := of_bnd h
  rcases of_ifb h with ⟨h2, h⟩ | ⟨h2, h⟩
  · replace h := Option.some.inj h
    subst h
    exact WM.retE mixed (e_F9 a0 a1 (.inl (1))) [R_ [o_, o_], R_ [o_, o_, c_ (mkCall Tryz.call18 (F18_ok h1) [0, 1] (by kernel_rfl) (by kernel_rfl)), o_, o_, o_, .op (.fresh 2 (svB 7 [.i .i64 0, .i .i64 0, .nils, .i .i64 0, .i .i64 0, .b false, .s []])), o_, o_], R_ [o_, o_], T_, R_ [o_, o_]] [] (pc zlt1 <| pc ((h2 : (!(decide (r1.2 = 0))) = true)) <| allP_nil) (by kernel_rfl) (by kernel_rfl)
  · obtain ⟨r2, h3, h⟩ := of_bnd h
    obtain ⟨r3, h4, h⟩ := of_bnd h
    obtain ⟨r4, h5, h⟩ := of_bnd h
    replace h := Option.some.inj h
    subst h
    exact WM.retE mixed (e_F9 a0 a1 (.inr ((r4, 0)))) [R_ [o_, o_], R_ [o_, o_, c_ (mkCall Tryz.call18 (F18_ok h1) [0, 1] (by kernel_rfl) (by kernel_rfl)), o_, o_, o_, .op (.fresh 2 (svB 7 [.i .i64 0, .i .i64 0, .nils, .i .i64 0, .i .i64 0, .b false, .s []])), o_, o_], R_ [o_, o_], F_, R_ [o_, o_, c_ (mkCall Tryz.call22 (F22_ok h3) [3, 4] (by kernel_rfl) (by kernel_rfl)), c_ (mkCall Tryz.call23 (F23_ok h4) [5, 6, 7, 8] (by kernel_rfl) (by kernel_rfl)), o_, .op (.fresh 9 (svB 31 [.i .i64 0, .i .i64 0, .b false, .i .i64 0, .i .i64 0, .i .i64 0, .b false, .nilp, .nilp, .i .i64 0, .i .i64 0, .i .i64 0, .nilp, .b false, .b false, .b false, .b false, .s [], .i .i64 0, .i .i64 0, .b false, .i .i64 0, .i .i64 0, .i .i64 0, .b false, .i .i64 a0, .i .i64 a1, .p 3 0 0, .p 5 0 0, .nils, .i .i64 0])), o_], R_ [o_, c_ (mkCall Tryz.call24 (F24_ok h5) [9, 3, 4, 5, 6, 7, 8, 10, 11, 12, 13, 14, 15, 16] (by kernel_rfl) (by kernel_rfl))], R_ [o_, o_, o_]] [some 9, some 10, some 11, some 12, some 13, some 14, some 15, some 3, some 4, some 5, some 6, some 7, some 8, some 16] (pc zlt1 <| pc ((h2 : (!(decide (r1.2 = 0))) = false)) <| allP_nil) (by kernel_rfl) (by kernel_rfl)

/-! ### F67: function 67 tickertape/utf.follows -/
def F67_p1 (f : Nat) (a1 : Int) (x7_1 : Int) (x8_1 : Int) : Option (Bool) :=
  some ((decide (a1 ≥ x7_1) && decide (a1 ≤ x8_1)))
def F67 (f : Nat) (a0 : Int) (a1 : Int) (a2 : Int) : Option (Bool) :=
  ifb (decide (a2 = 1)) (
    ifb (decide (a0 = 224)) (
      F67_p1 f a1 160 191) (
      ifb (decide (a0 = 237)) (
        F67_p1 f a1 128 159) (
        ifb (decide (a0 = 240)) (
          F67_p1 f a1 144 191) (
          ifb (decide (a0 = 244)) (
            F67_p1 f a1 128 143) (
            F67_p1 f a1 128 191))))) (
    F67_p1 f a1 128 191)
def v_F67 (a0 : Int) (a1 : Int) (a2 : Int) (y : Bool) : V :=
  .b y
def e_F67 (a0 : Int) (a1 : Int) (a2 : Int) (y : Bool) : Env :=
  [(6, ⟨none, .b y⟩)]
def x_F67 (a0 : Int) (a1 : Int) (a2 : Int) (y : Bool) : List (Option Blk) :=
  []
set_option maxRecDepth 100000 in
set_option maxHeartbeats 4000000 in
theorem F67_p1_ok {cx : Cx} {f : Nat} {a0 : Int} {a1 : Int} {a2 : Int} {x7_1 : Int} {x8_1 : Int} {y : Bool} (h : F67_p1 f a1 x7_1 x8_1 = some y) :
    WM Tryz.prog G0 28 0 Tryz.f67.results.toList (v_F67 a0 a1 a2 y) (x_F67 a0 a1 a2 y) cx (nav [.r, .r, .r, .t, .r, .r, .t, .r, .n] [.code (bodyOf Tryz.f67)]) [(1, ⟨none, .i .u8 a1⟩), (7, ⟨none, .i .u8 x7_1⟩), (8, ⟨none, .i .u8 x8_1⟩)] [] := by
  unfold F67_p1 at h
  replace h := Option.some.inj h
  subst h
  exact WM.retE mixed (e_F67 a0 a1 a2 ((decide (a1 ≥ x7_1) && decide (a1 ≤ x8_1)))) [R_ [o_, o_, o_, o_, o_, o_, o_, o_, o_]] [] (pc ((fun h => h : (decide (a1 ≥ x7_1) = true → decide (a1 ≥ x7_1) = true))) <| pc ((fun h => h : (decide (a1 ≥ x7_1) = true → decide (a1 ≥ x7_1) = true))) <| pc ((fun k2 => k2 : (decide (a1 ≥ x7_1) = true → decide (a1 ≥ x7_1) = true))) <| allP_nil) (by kernel_rfl) (by kernel_rfl)
set_option maxRecDepth 100000 in
set_option maxHeartbeats 4000000 in
theorem F67_ok {f : Nat} {a0 : Int} {a1 : Int} {a2 : Int} {y : Bool} (h : F67 f a0 a1 a2 = some y) :
    Spec Tryz.prog G0 67 [.i .u8 a0, .i .u8 a1, .i .i64 a2] [] (v_F67 a0 a1 a2 y) (x_F67 a0 a1 a2 y) :=
  Spec.ofM (fn := Tryz.f67) (c := bodyOf Tryz.f67) (n := 28) (rs := Tryz.f67.results.toList) Tryz.func67 (by kernel_rfl) (by kernel_rfl) (by kernel_rfl) (by kernel_rfl) fun cx => by
  unfold F67 at h
  rcases of_ifb h with ⟨h1, h⟩ | ⟨h1, h⟩
  · rcases of_ifb h with ⟨h2, h⟩ | ⟨h2, h⟩
    · exact WM.cut mixed [R_ [o_], R_ [o_, o_], R_ [o_, o_], T_, R_ [o_], R_ [o_, o_], T_, R_ [o_]] [] (pc ((h1 : decide (a2 = 1) = true)) <| pc ((h2 : decide (a0 = 224) = true)) <| allP_nil) (F67_p1_ok h) (by kernel_rfl)
    · rcases of_ifb h with ⟨h3, h⟩ | ⟨h3, h⟩
      · exact WM.cut mixed [R_ [o_], R_ [o_, o_], R_ [o_, o_], T_, R_ [o_], R_ [o_, o_], F_, R_ [o_, o_], T_, R_ [o_]] [] (pc ((h1 : decide (a2 = 1) = true)) <| pc ((h2 : decide (a0 = 224) = false)) <| pc ((h3 : decide (a0 = 237) = true)) <| allP_nil) (F67_p1_ok h) (by kernel_rfl)
      · rcases of_ifb h with ⟨h4, h⟩ | ⟨h4, h⟩
        · exact WM.cut mixed [R_ [o_], R_ [o_, o_], R_ [o_, o_], T_, R_ [o_], R_ [o_, o_], F_, R_ [o_, o_], F_, R_ [o_, o_], T_, R_ [o_]] [] (pc ((h1 : decide (a2 = 1) = true)) <| pc ((h2 : decide (a0 = 224) = false)) <| pc ((h3 : decide (a0 = 237) = false)) <| pc ((h4 : decide (a0 = 240) = true)) <| allP_nil) (F67_p1_ok h) (by kernel_rfl)
        · rcases of_ifb h with ⟨h5, h⟩ | ⟨h5, h⟩
          · exact WM.cut mixed [R_ [o_], R_ [o_, o_], R_ [o_, o_], T_, R_ [o_], R_ [o_, o_], F_, R_ [o_, o_], F_, R_ [o_, o_], F_, R_ [o_, o_], T_, R_ [o_]] [] (pc ((h1 : decide (a2 = 1) = true)) <| pc ((h2 : decide (a0 = 224) = false)) <| pc ((h3 : decide (a0 = 237) = false)) <| pc ((h4 : decide (a0 = 240) = false)) <| pc ((h5 : decide (a0 = 244) = true)) <| allP_nil) (F67_p1_ok h) (by kernel_rfl)
          · exact WM.cut mixed [R_ [o_], R_ [o_, o_], R_ [o_, o_], T_, R_ [o_], R_ [o_, o_], F_, R_ [o_, o_], F_, R_ [o_, o_], F_, R_ [o_, o_], F_] [] (pc ((h1 : decide (a2 = 1) = true)) <| pc ((h2 : decide (a0 = 224) = false)) <| pc ((h3 : decide (a0 = 237) = false)) <| pc ((h4 : decide (a0 = 240) = false)) <| pc ((h5 : decide (a0 = 244) = false)) <| allP_nil) (F67_p1_ok h) (by kernel_rfl)
  · exact WM.cut mixed [R_ [o_], R_ [o_, o_], R_ [o_, o_], F_] [] (pc ((h1 : decide (a2 = 1) = false)) <| allP_nil) (F67_p1_ok h) (by kernel_rfl)

/-! ### F68: function 68 tickertape/utf.length -/
def F68 (f : Nat) (a0 : Int) : Option (Int) :=
  ifb (decide (a0 < 128)) (
    some (1)) (
    ifb ((decide (a0 ≥ 194) && decide (a0 ≤ 223))) (
      some (2)) (
      ifb ((decide (a0 ≥ 224) && decide (a0 ≤ 239))) (
        some (3)) (
        ifb ((decide (a0 ≥ 240) && decide (a0 ≤ 244))) (
          some (4)) (
          some (0)))))
def v_F68 (a0 : Int) (y : Int) : V :=
  .i .i64 y
def e_F68 (a0 : Int) (y : Int) : Env :=
  [(2, ⟨none, .i .i64 y⟩)]
def x_F68 (a0 : Int) (y : Int) : List (Option Blk) :=
  []
set_option maxRecDepth 100000 in
set_option maxHeartbeats 4000000 in
theorem F68_ok {f : Nat} {a0 : Int} {y : Int} (h : F68 f a0 = some y) :
    Spec Tryz.prog G0 68 [.i .u8 a0] [] (v_F68 a0 y) (x_F68 a0 y) :=
  Spec.ofM (fn := Tryz.f68) (c := bodyOf Tryz.f68) (n := 27) (rs := Tryz.f68.results.toList) Tryz.func68 (by kernel_rfl) (by kernel_rfl) (by kernel_rfl) (by kernel_rfl) fun cx => by
  unfold F68 at h
  rcases of_ifb h with ⟨h1, h⟩ | ⟨h1, h⟩
  · replace h := Option.some.inj h
    subst h
    exact WM.retE mixed (e_F68 a0 (1)) [R_ [o_], R_ [o_, o_, o_], T_, R_ [o_]] [] (pc ((h1 : decide (a0 < 128) = true)) <| allP_nil) (by kernel_rfl) (by kernel_rfl)
  · rcases of_ifb h with ⟨h2, h⟩ | ⟨h2, h⟩
    · replace h := Option.some.inj h
      subst h
      exact WM.retE mixed (e_F68 a0 (2)) [R_ [o_], R_ [o_, o_, o_], F_, R_ [o_, o_, o_, o_, o_, o_, o_], T_, R_ [o_]] [] (pc ((h1 : decide (a0 < 128) = false)) <| pc ((fun h => h : (decide (a0 ≥ 194) = true → decide (a0 ≥ 194) = true))) <| pc ((fun k2 => k2 : (decide (a0 ≥ 194) = true → decide (a0 ≥ 194) = true))) <| pc ((h2 : (decide (a0 ≥ 194) && decide (a0 ≤ 223)) = true)) <| allP_nil) (by kernel_rfl) (by kernel_rfl)
    · rcases of_ifb h with ⟨h3, h⟩ | ⟨h3, h⟩
      · replace h := Option.some.inj h
        subst h
        exact WM.retE mixed (e_F68 a0 (3)) [R_ [o_], R_ [o_, o_, o_], F_, R_ [o_, o_, o_, o_, o_, o_, o_], F_, R_ [o_, o_, o_, o_, o_, o_, o_], T_, R_ [o_]] [] (pc ((h1 : decide (a0 < 128) = false)) <| pc ((fun h => h : (decide (a0 ≥ 194) = true → decide (a0 ≥ 194) = true))) <| pc ((fun k2 => k2 : (decide (a0 ≥ 194) = true → decide (a0 ≥ 194) = true))) <| pc ((h2 : (decide (a0 ≥ 194) && decide (a0 ≤ 223)) = false)) <| pc ((fun h => h : (decide (a0 ≥ 224) = true → decide (a0 ≥ 224) = true))) <| pc ((fun k2 => k2 : (decide (a0 ≥ 224) = true → decide (a0 ≥ 224) = true))) <| pc ((h3 : (decide (a0 ≥ 224) && decide (a0 ≤ 239)) = true)) <| allP_nil) (by kernel_rfl) (by kernel_rfl)
      · rcases of_ifb h with ⟨h4, h⟩ | ⟨h4, h⟩
        · replace h := Option.some.inj h
          subst h
          exact WM.retE mixed (e_F68 a0 (4)) [R_ [o_], R_ [o_, o_, o_], F_, R_ [o_, o_, o_, o_, o_, o_, o_], F_, R_ [o_, o_, o_, o_, o_, o_, o_], F_, R_ [o_, o_, o_, o_, o_, o_, o_], T_, R_ [o_]] [] (pc ((h1 : decide (a0 < 128) = false)) <| pc ((fun h => h : (decide (a0 ≥ 194) = true → decide (a0 ≥ 194) = true))) <| pc ((fun k2 => k2 : (decide (a0 ≥ 194) = true → decide (a0 ≥ 194) = true))) <| pc ((h2 : (decide (a0 ≥ 194) && decide (a0 ≤ 223)) = false)) <| pc ((fun h => h : (decide (a0 ≥ 224) = true → decide (a0 ≥ 224) = true))) <| pc ((fun k2 => k2 : (decide (a0 ≥ 224) = true → decide (a0 ≥ 224) = true))) <| pc ((h3 : (decide (a0 ≥ 224) && decide (a0 ≤ 239)) = false)) <| pc ((fun h => h : (decide (a0 ≥ 240) = true → decide (a0 ≥ 240) = true))) <| pc ((fun k2 => k2 : (decide (a0 ≥ 240) = true → decide (a0 ≥ 240) = true))) <| pc ((h4 : (decide (a0 ≥ 240) && decide (a0 ≤ 244)) = true)) <| allP_nil) (by kernel_rfl) (by kernel_rfl)
        · replace h := Option.some.inj h
          subst h
          exact WM.retE mixed (e_F68 a0 (0)) [R_ [o_], R_ [o_, o_, o_], F_, R_ [o_, o_, o_, o_, o_, o_, o_], F_, R_ [o_, o_, o_, o_, o_, o_, o_], F_, R_ [o_, o_, o_, o_, o_, o_, o_], F_, R_ [o_]] [] (pc ((h1 : decide (a0 < 128) = false)) <| pc ((fun h => h : (decide (a0 ≥ 194) = true → decide (a0 ≥ 194) = true))) <| pc ((fun k2 => k2 : (decide (a0 ≥ 194) = true → decide (a0 ≥ 194) = true))) <| pc ((h2 : (decide (a0 ≥ 194) && decide (a0 ≤ 223)) = false)) <| pc ((fun h => h : (decide (a0 ≥ 224) = true → decide (a0 ≥ 224) = true))) <| pc ((fun k2 => k2 : (decide (a0 ≥ 224) = true → decide (a0 ≥ 224) = true))) <| pc ((h3 : (decide (a0 ≥ 224) && decide (a0 ≤ 239)) = false)) <| pc ((fun h => h : (decide (a0 ≥ 240) = true → decide (a0 ≥ 240) = true))) <| pc ((fun k2 => k2 : (decide (a0 ≥ 240) = true → decide (a0 ≥ 240) = true))) <| pc ((h4 : (decide (a0 ≥ 240) && decide (a0 ≤ 244)) = false)) <| allP_nil) (by kernel_rfl) (by kernel_rfl)

/-! ### F69: function 69 (*tickertape/utf.Decoder).sign -/
def F69_p2_b (f : Nat) (g2 : Int → Int → Option (Int)) (a0 : utf_DecoderO) (x4_2 : Int) (x33_2 : Int) : Option (Int) :=
  ifb (decide (x33_2 < (((a0.b_n - 1) : Nat) : Int))) (
    chk (0 ≤ x33_2) <|
    chk (x33_2 < (((a0.b_n - 1) : Nat) : Int)) <|
    chk ((1 + x33_2.toNat) < a0.b.length) <|
    chk (inR (x33_2 + 1)) <|
    g2 (bitA .or .i32 (IntKind.wrap .i32 (x4_2 * 2 ^ 6)) (IntKind.wrap .i32 (bitA .and .u8 (a0.b.getD (1 + x33_2.toNat) 0) 63))) (x33_2 + 1)) (
    some (x4_2))
def F69_p2 (f : Nat) (a0 : utf_DecoderO) : Nat → Int → Int → Option (Int)
  | 0, _, _ => none
  | j + 1, x4_2, x33_2 => F69_p2_b f (F69_p2 f a0 j) a0 x4_2 x33_2
def F69_p1 (f : Nat) (a0 : utf_DecoderO) (x4_1 : Int) : Option (Int) :=
  chk (1 ≤ ((a0.b_n : Nat) : Int)) <|
  F69_p2 f a0 f x4_1 0
def F69 (f : Nat) (a0 : utf_DecoderO) : Option (Int) :=
  chk (0 < ((a0.b_n : Nat) : Int)) <|
  chk (0 < a0.b.length) <|
  ifb (decide (((a0.b_n : Nat) : Int) > 1)) (
    chk (inR (7 - ((a0.b_n : Nat) : Int))) <|
    chk (0 ≤ (7 - ((a0.b_n : Nat) : Int))) <|
    F69_p1 f a0 (bitA .and .i32 (IntKind.wrap .i32 (a0.b.getD 0 0)) (IntKind.wrap .i32 ((IntKind.wrap .i32 (1 * 2 ^ (min (Int.toNat (7 - ((a0.b_n : Nat) : Int))) 32))) - 1)))) (
    F69_p1 f a0 (IntKind.wrap .i32 (a0.b.getD 0 0)))
def v_F69 (a0 : utf_DecoderO) (y : Int) : V :=
  .i .i32 y
def e_F69 (a0 : utf_DecoderO) (y : Int) : Env :=
  [(2, ⟨none, .i .i32 y⟩)]
def x_F69 (a0 : utf_DecoderO) (y : Int) : List (Option Blk) :=
  [some (B_utf_DecoderO 1 a0), some (intB .u8 a0.b)]
set_option maxRecDepth 100000 in
set_option maxHeartbeats 4000000 in
theorem F69_p2_bok {cx : Cx} {f : Nat} {I2 : Act → World → Prop} {g2 : Int → Int → Option (Int)} {a0 : utf_DecoderO} {x4_2 : Int} {x33_2 : Int} {y : Int} (hg2 : ∀ (x4_2 : Int) (x33_2 : Int), g2 x4_2 x33_2 = some y → ∀ a w, cx.In G0 45 2 [(4, ⟨none, .i .i32 x4_2⟩), (31, ⟨none, .sl 1 1 (a0.b_n - 1)⟩), (32, ⟨none, .i .i64 (((a0.b_n - 1) : Nat) : Int)⟩), (33, ⟨none, .i .i64 x33_2⟩)] [some (B_utf_DecoderO 1 a0), some (intB .u8 a0.b)] a w → I2 a w) (h : F69_p2_b f g2 a0 x4_2 x33_2 = some y) :
    WM Tryz.prog G0 45 2 Tryz.f69.results.toList (v_F69 a0 y) (x_F69 a0 y) cx (nav [.r, .r, .r, .r, .t, .r, .r, .l I2] [.code (bodyOf Tryz.f69)]) [(4, ⟨none, .i .i32 x4_2⟩), (31, ⟨none, .sl 1 1 (a0.b_n - 1)⟩), (32, ⟨none, .i .i64 (((a0.b_n - 1) : Nat) : Int)⟩), (33, ⟨none, .i .i64 x33_2⟩)] [some (B_utf_DecoderO 1 a0), some (intB .u8 a0.b)] := by
  unfold F69_p2_b at h
  rcases of_ifb h with ⟨h7, h⟩ | ⟨h7, h⟩
  · obtain ⟨h8, h⟩ := of_chk h
    obtain ⟨h9, h⟩ := of_chk h
    obtain ⟨h10, h⟩ := of_chk h
    obtain ⟨h11, h⟩ := of_chk h
    exact WM.cut mixed [R_ [o_], T_, R_ [o_, o_, o_], R_ [o_, o_, o_, o_, o_, o_, o_], R_ [o_, o_]] [some 0, some 1] (pc ((h7 : decide (x33_2 < (((a0.b_n - 1) : Nat) : Int)) = true)) <| pc h8 <| pc h9 <| pc h10 <| pc ((by decide : (0 : Int) ≤ 6)) <| pc h11 <| allP_nil) (WM.again (k := (nav [.r, .r, .r, .r, .t, .r, .r, .n] [.code (bodyOf Tryz.f69)]).tail) (hg2 _ _ h)) (by kernel_rfl)
  · replace h := Option.some.inj h
    subst h
    exact WM.retE mixed (e_F69 a0 (x4_2)) [R_ [o_], F_, R_ [o_, o_]] [some 0, some 1] (pc ((h7 : decide (x33_2 < (((a0.b_n - 1) : Nat) : Int)) = false)) <| allP_nil) (by kernel_rfl) (by kernel_rfl)
set_option maxRecDepth 100000 in
set_option maxHeartbeats 4000000 in
theorem F69_p2_ok {cx : Cx} {f : Nat} {a0 : utf_DecoderO} {x4_2 : Int} {x33_2 : Int} {j : Nat} {y : Int} (h : F69_p2 f a0 j x4_2 x33_2 = some y) :
    WM Tryz.prog G0 45 2 Tryz.f69.results.toList (v_F69 a0 y) (x_F69 a0 y) cx (nav [.r, .r, .r, .r, .t, .r, .r, .n] [.code (bodyOf Tryz.f69)]) [(4, ⟨none, .i .i32 x4_2⟩), (31, ⟨none, .sl 1 1 (a0.b_n - 1)⟩), (32, ⟨none, .i .i64 (((a0.b_n - 1) : Nat) : Int)⟩), (33, ⟨none, .i .i64 x33_2⟩)] [some (B_utf_DecoderO 1 a0), some (intB .u8 a0.b)] := by
  refine WM.loopN (X := Int × Int) (y := y) (kb := fun I2 => (nav [.r, .r, .r, .r, .t, .r, .r, .l I2] [.code (bodyOf Tryz.f69)])) (by intro I; kernel_rfl) (fun j x => F69_p2 f a0 j x.1 x.2) (fun x => [(4, ⟨none, .i .i32 x.1⟩), (31, ⟨none, .sl 1 1 (a0.b_n - 1)⟩), (32, ⟨none, .i .i64 (((a0.b_n - 1) : Nat) : Int)⟩), (33, ⟨none, .i .i64 x.2⟩)]) (fun x => [some (B_utf_DecoderO 1 a0), some (intB .u8 a0.b)]) ?_ (j := j) (x := (x4_2, x33_2)) h
  intro j x I2 h hI
  cases j with
  | zero => cases h
  | succ j => exact F69_p2_bok (fun x0 x1 => hI j (x0, x1) (Nat.lt_succ_self j)) h
set_option maxRecDepth 100000 in
set_option maxHeartbeats 4000000 in
theorem F69_p1_ok {cx : Cx} {f : Nat} {a0 : utf_DecoderO} {x4_1 : Int} {y : Int} (h : F69_p1 f a0 x4_1 = some y) :
    WM Tryz.prog G0 45 2 Tryz.f69.results.toList (v_F69 a0 y) (x_F69 a0 y) cx (nav [.r, .r, .r, .r, .t, .r, .n] [.code (bodyOf Tryz.f69)]) [(0, ⟨none, .p 0 0 0⟩), (4, ⟨none, .i .i32 x4_1⟩)] [some (B_utf_DecoderO 1 a0), some (intB .u8 a0.b)] := by
  unfold F69_p1 at h
  obtain ⟨h6, h⟩ := of_chk h
  exact WM.cut mixed [R_ [o_, o_, o_, o_, o_, o_, o_]] [some 0, some 1] (pc zlt1 <| pc ((by decide : (0 : Int) ≤ 1)) <| pc h6 <| allP_nil) (F69_p2_ok h) (by kernel_rfl)
set_option maxRecDepth 100000 in
set_option maxHeartbeats 4000000 in
theorem F69_ok {f : Nat} {a0 : utf_DecoderO} {y : Int} (h : F69 f a0 = some y) :
    Spec Tryz.prog G0 69 [.p 0 0 0] [some (B_utf_DecoderO 1 a0), some (intB .u8 a0.b)] (v_F69 a0 y) (x_F69 a0 y) :=
  Spec.ofM (fn := Tryz.f69) (c := bodyOf Tryz.f69) (n := 45) (rs := Tryz.f69.results.toList) Tryz.func69 (by kernel_rfl) (by kernel_rfl) (by kernel_rfl) (by kernel_rfl) fun cx => by
  unfold F69 at h
  obtain ⟨h1, h⟩ := of_chk h
  obtain ⟨h2, h⟩ := of_chk h
  rcases of_ifb h with ⟨h3, h⟩ | ⟨h3, h⟩
  · obtain ⟨h4, h⟩ := of_chk h
    obtain ⟨h5, h⟩ := of_chk h
    exact WM.cut mixed [R_ [o_], R_ [o_, o_, o_, o_, o_, o_], R_ [o_, o_, o_, o_, o_, o_, o_, o_], R_ [o_, o_], T_, R_ [o_, o_, o_, o_, o_, o_, o_]] [some 0, some 1] (pc zlt1 <| pc zlt1 <| pc ((by decide : (0 : Int) ≤ 0)) <| pc h1 <| pc h2 <| pc ((h3 : decide (((a0.b_n : Nat) : Int) > 1) = true)) <| pc h4 <| pc h5 <| allP_nil) (F69_p1_ok h) (by kernel_rfl)
  · exact WM.cut mixed [R_ [o_], R_ [o_, o_, o_, o_, o_, o_], R_ [o_, o_, o_, o_, o_, o_, o_, o_], R_ [o_, o_], F_] [some 0, some 1] (pc zlt1 <| pc zlt1 <| pc ((by decide : (0 : Int) ≤ 0)) <| pc h1 <| pc h2 <| pc ((h3 : decide (((a0.b_n : Nat) : Int) > 1) = false)) <| allP_nil) (F69_p1_ok h) (by kernel_rfl)

/-! ### F41_1: function 41 (*tickertape/utf.Decoder).take -/
def F41_1 (f : Nat) (a0 : utf_DecoderO_1) (a1 : Int) : Option (utf_DecoderO × Nat × List Int) :=
  bnd (F68 f ([a1].getD 0 0)) fun r1 =>
  ifb (decide (r1 = 0)) (
    some (((utf_DecoderO.mk 0 []), 1, [65533]))) (
    ifb (decide (r1 = 1)) (
      bnd (F69 f (utf_DecoderO.mk 1 [a1])) fun r2 =>
      some (((utf_DecoderO.mk 0 []), 1, [r2]))) (
      some (((utf_DecoderO.mk 1 [a1]), 0, []))))
def v_F41_1 (a0 : utf_DecoderO_1) (a1 : Int) (y : utf_DecoderO × Nat × List Int) : V :=
  .sl 2 0 y.2.1
def e_F41_1 (a0 : utf_DecoderO_1) (a1 : Int) (y : utf_DecoderO × Nat × List Int) : Env :=
  [(4, ⟨none, .sl 2 0 y.2.1⟩)]
def x_F41_1 (a0 : utf_DecoderO_1) (a1 : Int) (y : utf_DecoderO × Nat × List Int) : List (Option Blk) :=
  [some (B_utf_DecoderO 1 y.1), some (intB .u8 y.1.b), some (intB .i32 y.2.2)]
set_option maxRecDepth 100000 in
set_option maxHeartbeats 4000000 in
theorem F41_1_ok {f : Nat} {a0 : utf_DecoderO_1} {a1 : Int} {y : utf_DecoderO × Nat × List Int} (h : F41_1 f a0 a1 = some y) :
    Spec Tryz.prog G0 41 [.p 0 0 0, .i .u8 a1] [some (B_utf_DecoderO_1 a0)] (v_F41_1 a0 a1 y) (x_F41_1 a0 a1 y) :=
  Spec.ofM (fn := Tryz.f41) (c := bodyOf Tryz.f41) (n := 73) (rs := Tryz.f41.results.toList) Tryz.func41 (by kernel_rfl) (by kernel_rfl) (by kernel_rfl) (by kernel_rfl) fun cx => by
  unfold F41_1 at h
  obtain ⟨r1, h1, h⟩ := of_bnd h
  rcases of_ifb h with ⟨h2, h⟩ | ⟨h2, h⟩
  · replace h := Option.some.inj h
    subst h
    exact WM.retE mixed (e_F41_1 a0 a1 (((utf_DecoderO.mk 0 []), 1, [65533]))) [R_ [o_], R_ [o_, o_, o_, o_, o_, o_, o_, s_, s_, s_, s_, s_, s_, s_, s_, s_, s_, s_, s_, s_, s_, .pk false], F_, R_ [o_, o_, o_, o_, o_, o_, .op (.fresh 1 (intB .u8 [a1])), .op (.fresh2 2 3 (intB .u8 [])), o_, o_, o_], R_ [o_, o_, o_, o_, o_, o_, c_ (mkCall Tryz.call68 (F68_ok h1) [] (by kernel_rfl) (by kernel_rfl))], R_ [o_, o_], T_, R_ [o_, o_, o_, o_], R_ [.op (.fresh 4 (intB .i32 [65533])), o_]] [some 0, none, some 4] (pc zlt1 <| pc ((rfl : false = false)) <| pc ((rfl : false = false)) <| pc ((rfl : false = false)) <| pc ((rfl : false = false)) <| pc ((rfl : false = false)) <| pc ((rfl : false = false)) <| pc ((rfl : false = false)) <| pc ((rfl : false = false)) <| pc ((rfl : false = false)) <| pc ((rfl : false = false)) <| pc ((rfl : false = false)) <| pc ((rfl : false = false)) <| pc ((rfl : false = false)) <| pc ((rfl : false = false)) <| pc ((rfl : false = false)) <| pc ((rfl : false = false)) <| pc zlt1 <| pc ((rfl : (0:Nat) = 0)) <| pc ((by decide : (1 : Int) ≤ 140737488355328)) <| pc ((by decide : 1 ≤ 1)) <| pc zlt1 <| pc zlt1 <| pc ((by decide : (0 : Int) ≤ 0)) <| pc ((by decide : (0 : Int) < 1)) <| pc ((by decide : 0 < 1)) <| pc ((h2 : decide (r1 = 0) = true)) <| pc zlt1 <| allP_nil) (by kernel_rfl) (by kernel_rfl)
  · rcases of_ifb h with ⟨h3, h⟩ | ⟨h3, h⟩
    · obtain ⟨r2, h4, h⟩ := of_bnd h
      replace h := Option.some.inj h
      subst h
      exact WM.retE mixed (e_F41_1 a0 a1 (((utf_DecoderO.mk 0 []), 1, [r2]))) [R_ [o_], R_ [o_, o_, o_, o_, o_, o_, o_, s_, s_, s_, s_, s_, s_, s_, s_, s_, s_, s_, s_, s_, s_, .pk false], F_, R_ [o_, o_, o_, o_, o_, o_, .op (.fresh 1 (intB .u8 [a1])), .op (.fresh2 2 3 (intB .u8 [])), o_, o_, o_], R_ [o_, o_, o_, o_, o_, o_, c_ (mkCall Tryz.call68 (F68_ok h1) [] (by kernel_rfl) (by kernel_rfl))], R_ [o_, o_], F_, R_ [o_, o_, o_, o_, o_, o_, o_], T_, R_ [o_, c_ (mkCall Tryz.call69 (F69_ok h4) [0, 3] (by kernel_rfl) (by kernel_rfl)), o_], R_ [o_, o_, o_, o_], R_ [o_, .op (.fresh 4 (intB .i32 [r2])), o_]] [some 0, none, some 4] (pc zlt1 <| pc ((rfl : false = false)) <| pc ((rfl : false = false)) <| pc ((rfl : false = false)) <| pc ((rfl : false = false)) <| pc ((rfl : false = false)) <| pc ((rfl : false = false)) <| pc ((rfl : false = false)) <| pc ((rfl : false = false)) <| pc ((rfl : false = false)) <| pc ((rfl : false = false)) <| pc ((rfl : false = false)) <| pc ((rfl : false = false)) <| pc ((rfl : false = false)) <| pc ((rfl : false = false)) <| pc ((rfl : false = false)) <| pc ((rfl : false = false)) <| pc zlt1 <| pc ((rfl : (0:Nat) = 0)) <| pc ((by decide : (1 : Int) ≤ 140737488355328)) <| pc ((by decide : 1 ≤ 1)) <| pc zlt1 <| pc zlt1 <| pc ((by decide : (0 : Int) ≤ 0)) <| pc ((by decide : (0 : Int) < 1)) <| pc ((by decide : 0 < 1)) <| pc ((h2 : decide (r1 = 0) = false)) <| pc zlt1 <| pc ((h3 : decide (r1 = 1) = true)) <| pc zlt1 <| allP_nil) (by kernel_rfl) (by kernel_rfl)
    · replace h := Option.some.inj h
      subst h
      exact WM.retE mixed (e_F41_1 a0 a1 (((utf_DecoderO.mk 1 [a1]), 0, []))) [R_ [o_], R_ [o_, o_, o_, o_, o_, o_, o_, s_, s_, s_, s_, s_, s_, s_, s_, s_, s_, s_, s_, s_, s_, .pk false], F_, R_ [o_, o_, o_, o_, o_, o_, .op (.fresh 1 (intB .u8 [a1])), .op (.fresh2 2 3 (intB .u8 [])), o_, o_, o_], R_ [o_, o_, o_, o_, o_, o_, c_ (mkCall Tryz.call68 (F68_ok h1) [] (by kernel_rfl) (by kernel_rfl))], R_ [o_, o_], F_, R_ [o_, o_, o_, o_, o_, o_, o_], F_, R_ [o_]] [some 0, some 3, none] (pc zlt1 <| pc ((rfl : false = false)) <| pc ((rfl : false = false)) <| pc ((rfl : false = false)) <| pc ((rfl : false = false)) <| pc ((rfl : false = false)) <| pc ((rfl : false = false)) <| pc ((rfl : false = false)) <| pc ((rfl : false = false)) <| pc ((rfl : false = false)) <| pc ((rfl : false = false)) <| pc ((rfl : false = false)) <| pc ((rfl : false = false)) <| pc ((rfl : false = false)) <| pc ((rfl : false = false)) <| pc ((rfl : false = false)) <| pc ((rfl : false = false)) <| pc zlt1 <| pc ((rfl : (0:Nat) = 0)) <| pc ((by decide : (1 : Int) ≤ 140737488355328)) <| pc ((by decide : 1 ≤ 1)) <| pc zlt1 <| pc zlt1 <| pc ((by decide : (0 : Int) ≤ 0)) <| pc ((by decide : (0 : Int) < 1)) <| pc ((by decide : 0 < 1)) <| pc ((h2 : decide (r1 = 0) = false)) <| pc zlt1 <| pc ((h3 : decide (r1 = 1) = false)) <| allP_nil) (by kernel_rfl) (by kernel_rfl)

/-! ### F41: function 41 (*tickertape/utf.Decoder).take -/
def F41 (f : Nat) (a0 : utf_DecoderO) (a1 : Int) : Option (utf_DecoderO × Nat × List Int) :=
  chk ((decide (((a0.b_n : Nat) : Int) > 0) = true → (0 : Int) ≤ 0)) <|
  chk ((decide (((a0.b_n : Nat) : Int) > 0) = true → 0 < ((a0.b_n : Nat) : Int))) <|
  chk ((decide (((a0.b_n : Nat) : Int) > 0) = true → 0 < a0.b.length)) <|
  ifb (decide (((a0.b_n : Nat) : Int) > 0)) (
    bnd (F67 f (a0.b.getD 0 0) a1 ((a0.b_n : Nat) : Int)) fun r1 =>
    ifb ((!r1)) (
      bnd (F41_1 f utf_DecoderO_1.mk a1) fun r2 =>
      chk (((((1 + (((r2.2.2.drop 0).take r2.2.1)).length)) * 4 : Nat) : Int) ≤ 140737488355328) <|
      chk ((0 + r2.2.1) ≤ r2.2.2.length) <|
      some ((r2.1, (1 + (((r2.2.2.drop 0).take r2.2.1)).length), ([65533] ++ (((r2.2.2.drop 0).take r2.2.1).map fun y => y))))) (
      chk (a0.b_n = a0.b.length) <|
      chk (((((a0.b_n + 1)) * 1 : Nat) : Int) ≤ 140737488355328) <|
      chk (0 < (((a0.b_n + 1) : Nat) : Int)) <|
      chk (0 < ((a0.b ++ [a1])).length) <|
      bnd (F68 f ((a0.b ++ [a1]).getD 0 0)) fun r3 =>
      ifb (decide (r3 = 0)) (
        some (((utf_DecoderO.mk 0 []), 1, [65533]))) (
        ifb (decide (r3 = (((a0.b_n + 1) : Nat) : Int))) (
          bnd (F69 f (utf_DecoderO.mk (a0.b_n + 1) (a0.b ++ [a1]))) fun r4 =>
          some (((utf_DecoderO.mk 0 []), 1, [r4]))) (
          some (((utf_DecoderO.mk (a0.b_n + 1) (a0.b ++ [a1])), 0, [])))))) (
    chk (a0.b_n = a0.b.length) <|
    chk (((((a0.b_n + 1)) * 1 : Nat) : Int) ≤ 140737488355328) <|
    chk (0 < (((a0.b_n + 1) : Nat) : Int)) <|
    chk (0 < ((a0.b ++ [a1])).length) <|
    bnd (F68 f ((a0.b ++ [a1]).getD 0 0)) fun r5 =>
    ifb (decide (r5 = 0)) (
      some (((utf_DecoderO.mk 0 []), 1, [65533]))) (
      ifb (decide (r5 = (((a0.b_n + 1) : Nat) : Int))) (
        bnd (F69 f (utf_DecoderO.mk (a0.b_n + 1) (a0.b ++ [a1]))) fun r6 =>
        some (((utf_DecoderO.mk 0 []), 1, [r6]))) (
        some (((utf_DecoderO.mk (a0.b_n + 1) (a0.b ++ [a1])), 0, [])))))
def v_F41 (a0 : utf_DecoderO) (a1 : Int) (y : utf_DecoderO × Nat × List Int) : V :=
  .sl 3 0 y.2.1
def e_F41 (a0 : utf_DecoderO) (a1 : Int) (y : utf_DecoderO × Nat × List Int) : Env :=
  [(4, ⟨none, .sl 3 0 y.2.1⟩)]
def x_F41 (a0 : utf_DecoderO) (a1 : Int) (y : utf_DecoderO × Nat × List Int) : List (Option Blk) :=
  [some (B_utf_DecoderO 2 y.1), none, some (intB .u8 y.1.b), some (intB .i32 y.2.2)]
set_option maxRecDepth 100000 in
set_option maxHeartbeats 4000000 in
theorem F41_ok {f : Nat} {a0 : utf_DecoderO} {a1 : Int} {y : utf_DecoderO × Nat × List Int} (h : F41 f a0 a1 = some y) :
    Spec Tryz.prog G0 41 [.p 0 0 0, .i .u8 a1] [some (B_utf_DecoderO 1 a0), some (intB .u8 a0.b)] (v_F41 a0 a1 y) (x_F41 a0 a1 y) :=
  Spec.ofM (fn := Tryz.f41) (c := bodyOf Tryz.f41) (n := 73) (rs := Tryz.f41.results.toList) Tryz.func41 (by kernel_rfl) (by kernel_rfl) (by kernel_rfl) (by kernel_rfl) fun cx => by
  unfold F41 at h
  obtain ⟨h1, h⟩ := of_chk h
  obtain ⟨h2, h⟩ := of_chk h
  obtain ⟨h3, h⟩ := of_chk h
  rcases of_ifb h with ⟨h4, h⟩ | ⟨h4, h⟩
  · obtain ⟨r1, h5, h⟩ := of_bnd h
    rcases of_ifb h with ⟨h6, h⟩ | ⟨h6, h⟩
    · obtain ⟨r2, h7, h⟩ := of_bnd h
      obtain ⟨h8, h⟩ := of_chk h
      obtain ⟨h9, h⟩ := of_chk h
      replace h := Option.some.inj h
      subst h
      exact WM.retE mixed (e_F41 a0 a1 ((r2.1, (1 + (((r2.2.2.drop 0).take r2.2.1)).length), ([65533] ++ (((r2.2.2.drop 0).take r2.2.1).map fun y => y))))) [R_ [o_], R_ [o_, o_, o_, o_, o_, o_, o_, o_, o_, o_, o_, o_, o_, o_, o_, o_, o_, o_, o_, c_ (mkCall Tryz.call67 (F67_ok h5) [] (by kernel_rfl) (by kernel_rfl)), m_, .pk true], T_, R_ [o_, o_, o_, o_], R_ [.op (.fresh 2 (intB .i32 [65533])), o_, o_, c_ (mkCall Tryz.call41 (F41_1_ok h7) [0, 3, 4] (by kernel_rfl) (by kernel_rfl)), .op (.fresh 5 (intB .u8 [])), o_]] [some 0, some 1, some 3, some 5] (pc zlt1 <| pc ((fun h => h : (decide (((a0.b_n : Nat) : Int) > 0) = true → decide (((a0.b_n : Nat) : Int) > 0) = true))) <| pc ((fun h => h : (decide (((a0.b_n : Nat) : Int) > 0) = true → decide (((a0.b_n : Nat) : Int) > 0) = true))) <| pc ((fun h => h : (decide (((a0.b_n : Nat) : Int) > 0) = true → decide (((a0.b_n : Nat) : Int) > 0) = true))) <| pc ((fun _ => zlt1 : (decide (((a0.b_n : Nat) : Int) > 0) = true → 0 < 1))) <| pc ((fun h => h : (decide (((a0.b_n : Nat) : Int) > 0) = true → decide (((a0.b_n : Nat) : Int) > 0) = true))) <| pc h1 <| pc h2 <| pc ((fun h => h : (decide (((a0.b_n : Nat) : Int) > 0) = true → decide (((a0.b_n : Nat) : Int) > 0) = true))) <| pc h3 <| pc ((fun h => h : (decide (((a0.b_n : Nat) : Int) > 0) = true → decide (((a0.b_n : Nat) : Int) > 0) = true))) <| pc ((fun h => h : (decide (((a0.b_n : Nat) : Int) > 0) = true → decide (((a0.b_n : Nat) : Int) > 0) = true))) <| pc ((fun h => h : (decide (((a0.b_n : Nat) : Int) > 0) = true → decide (((a0.b_n : Nat) : Int) > 0) = true))) <| pc ((fun _ => zlt1 : (decide (((a0.b_n : Nat) : Int) > 0) = true → 0 < 1))) <| pc ((fun h => h : (decide (((a0.b_n : Nat) : Int) > 0) = true → decide (((a0.b_n : Nat) : Int) > 0) = true))) <| pc ((h4 : decide (((a0.b_n : Nat) : Int) > 0) = true)) <| pc ((h4 : decide (((a0.b_n : Nat) : Int) > 0) = true)) <| pc ((h4 : decide (((a0.b_n : Nat) : Int) > 0) = true)) <| pc ((h4 : decide (((a0.b_n : Nat) : Int) > 0) = true)) <| pc ((h4 : decide (((a0.b_n : Nat) : Int) > 0) = true)) <| pc ((h4 : decide (((a0.b_n : Nat) : Int) > 0) = true)) <| pc ((h6 : (!r1) = true)) <| pc zlt1 <| pc ((by decide : 1 = 1)) <| pc h8 <| pc h9 <| allP_nil) (by kernel_rfl) (by kernel_rfl)
    · obtain ⟨h10, h⟩ := of_chk h
      obtain ⟨h11, h⟩ := of_chk h
      obtain ⟨h12, h⟩ := of_chk h
      obtain ⟨h13, h⟩ := of_chk h
      obtain ⟨r3, h14, h⟩ := of_bnd h
      rcases of_ifb h with ⟨h15, h⟩ | ⟨h15, h⟩
      · replace h := Option.some.inj h
        subst h
        exact WM.retE mixed (e_F41 a0 a1 (((utf_DecoderO.mk 0 []), 1, [65533]))) [R_ [o_], R_ [o_, o_, o_, o_, o_, o_, o_, o_, o_, o_, o_, o_, o_, o_, o_, o_, o_, o_, o_, c_ (mkCall Tryz.call67 (F67_ok h5) [] (by kernel_rfl) (by kernel_rfl)), m_, .pk true], F_, R_ [o_, o_, o_, o_, o_, o_, .op (.fresh 2 (intB .u8 [a1])), .op (.fresh 3 (intB .u8 [])), o_, o_, o_], R_ [o_, o_, o_, o_, o_, o_, c_ (mkCall Tryz.call68 (F68_ok h14) [] (by kernel_rfl) (by kernel_rfl))], R_ [o_, o_], T_, R_ [o_, o_, o_, o_], R_ [.op (.fresh 4 (intB .i32 [65533])), o_]] [some 0, some 1, none, some 4] (pc zlt1 <| pc ((fun h => h : (decide (((a0.b_n : Nat) : Int) > 0) = true → decide (((a0.b_n : Nat) : Int) > 0) = true))) <| pc ((fun h => h : (decide (((a0.b_n : Nat) : Int) > 0) = true → decide (((a0.b_n : Nat) : Int) > 0) = true))) <| pc ((fun h => h : (decide (((a0.b_n : Nat) : Int) > 0) = true → decide (((a0.b_n : Nat) : Int) > 0) = true))) <| pc ((fun _ => zlt1 : (decide (((a0.b_n : Nat) : Int) > 0) = true → 0 < 1))) <| pc ((fun h => h : (decide (((a0.b_n : Nat) : Int) > 0) = true → decide (((a0.b_n : Nat) : Int) > 0) = true))) <| pc h1 <| pc h2 <| pc ((fun h => h : (decide (((a0.b_n : Nat) : Int) > 0) = true → decide (((a0.b_n : Nat) : Int) > 0) = true))) <| pc h3 <| pc ((fun h => h : (decide (((a0.b_n : Nat) : Int) > 0) = true → decide (((a0.b_n : Nat) : Int) > 0) = true))) <| pc ((fun h => h : (decide (((a0.b_n : Nat) : Int) > 0) = true → decide (((a0.b_n : Nat) : Int) > 0) = true))) <| pc ((fun h => h : (decide (((a0.b_n : Nat) : Int) > 0) = true → decide (((a0.b_n : Nat) : Int) > 0) = true))) <| pc ((fun _ => zlt1 : (decide (((a0.b_n : Nat) : Int) > 0) = true → 0 < 1))) <| pc ((fun h => h : (decide (((a0.b_n : Nat) : Int) > 0) = true → decide (((a0.b_n : Nat) : Int) > 0) = true))) <| pc ((h4 : decide (((a0.b_n : Nat) : Int) > 0) = true)) <| pc ((h4 : decide (((a0.b_n : Nat) : Int) > 0) = true)) <| pc ((h4 : decide (((a0.b_n : Nat) : Int) > 0) = true)) <| pc ((h4 : decide (((a0.b_n : Nat) : Int) > 0) = true)) <| pc ((h4 : decide (((a0.b_n : Nat) : Int) > 0) = true)) <| pc ((h4 : decide (((a0.b_n : Nat) : Int) > 0) = true)) <| pc ((h6 : (!r1) = false)) <| pc zlt1 <| pc h10 <| pc h11 <| pc ((by decide : 1 ≤ 1)) <| pc zlt1 <| pc zlt1 <| pc ((by decide : (0 : Int) ≤ 0)) <| pc h12 <| pc h13 <| pc ((h15 : decide (r3 = 0) = true)) <| pc zlt1 <| allP_nil) (by kernel_rfl) (by kernel_rfl)
      · rcases of_ifb h with ⟨h16, h⟩ | ⟨h16, h⟩
        · obtain ⟨r4, h17, h⟩ := of_bnd h
          replace h := Option.some.inj h
          subst h
          exact WM.retE mixed (e_F41 a0 a1 (((utf_DecoderO.mk 0 []), 1, [r4]))) [R_ [o_], R_ [o_, o_, o_, o_, o_, o_, o_, o_, o_, o_, o_, o_, o_, o_, o_, o_, o_, o_, o_, c_ (mkCall Tryz.call67 (F67_ok h5) [] (by kernel_rfl) (by kernel_rfl)), m_, .pk true], F_, R_ [o_, o_, o_, o_, o_, o_, .op (.fresh 2 (intB .u8 [a1])), .op (.fresh 3 (intB .u8 [])), o_, o_, o_], R_ [o_, o_, o_, o_, o_, o_, c_ (mkCall Tryz.call68 (F68_ok h14) [] (by kernel_rfl) (by kernel_rfl))], R_ [o_, o_], F_, R_ [o_, o_, o_, o_, o_, o_, o_], T_, R_ [o_, c_ (mkCall Tryz.call69 (F69_ok h17) [0, 3] (by kernel_rfl) (by kernel_rfl)), o_], R_ [o_, o_, o_, o_], R_ [o_, .op (.fresh 4 (intB .i32 [r4])), o_]] [some 0, some 1, none, some 4] (pc zlt1 <| pc ((fun h => h : (decide (((a0.b_n : Nat) : Int) > 0) = true → decide (((a0.b_n : Nat) : Int) > 0) = true))) <| pc ((fun h => h : (decide (((a0.b_n : Nat) : Int) > 0) = true → decide (((a0.b_n : Nat) : Int) > 0) = true))) <| pc ((fun h => h : (decide (((a0.b_n : Nat) : Int) > 0) = true → decide (((a0.b_n : Nat) : Int) > 0) = true))) <| pc ((fun _ => zlt1 : (decide (((a0.b_n : Nat) : Int) > 0) = true → 0 < 1))) <| pc ((fun h => h : (decide (((a0.b_n : Nat) : Int) > 0) = true → decide (((a0.b_n : Nat) : Int) > 0) = true))) <| pc h1 <| pc h2 <| pc ((fun h => h : (decide (((a0.b_n : Nat) : Int) > 0) = true → decide (((a0.b_n : Nat) : Int) > 0) = true))) <| pc h3 <| pc ((fun h => h : (decide (((a0.b_n : Nat) : Int) > 0) = true → decide (((a0.b_n : Nat) : Int) > 0) = true))) <| pc ((fun h => h : (decide (((a0.b_n : Nat) : Int) > 0) = true → decide (((a0.b_n : Nat) : Int) > 0) = true))) <| pc ((fun h => h : (decide (((a0.b_n : Nat) : Int) > 0) = true → decide (((a0.b_n : Nat) : Int) > 0) = true))) <| pc ((fun _ => zlt1 : (decide (((a0.b_n : Nat) : Int) > 0) = true → 0 < 1))) <| pc ((fun h => h : (decide (((a0.b_n : Nat) : Int) > 0) = true → decide (((a0.b_n : Nat) : Int) > 0) = true))) <| pc ((h4 : decide (((a0.b_n : Nat) : Int) > 0) = true)) <| pc ((h4 : decide (((a0.b_n : Nat) : Int) > 0) = true)) <| pc ((h4 : decide (((a0.b_n : Nat) : Int) > 0) = true)) <| pc ((h4 : decide (((a0.b_n : Nat) : Int) > 0) = true)) <| pc ((h4 : decide (((a0.b_n : Nat) : Int) > 0) = true)) <| pc ((h4 : decide (((a0.b_n : Nat) : Int) > 0) = true)) <| pc ((h6 : (!r1) = false)) <| pc zlt1 <| pc h10 <| pc h11 <| pc ((by decide : 1 ≤ 1)) <| pc zlt1 <| pc zlt1 <| pc ((by decide : (0 : Int) ≤ 0)) <| pc h12 <| pc h13 <| pc ((h15 : decide (r3 = 0) = false)) <| pc zlt1 <| pc ((h16 : decide (r3 = (((a0.b_n + 1) : Nat) : Int)) = true)) <| pc zlt1 <| allP_nil) (by kernel_rfl) (by kernel_rfl)
        · replace h := Option.some.inj h
          subst h
          exact WM.retE mixed (e_F41 a0 a1 (((utf_DecoderO.mk (a0.b_n + 1) (a0.b ++ [a1])), 0, []))) [R_ [o_], R_ [o_, o_, o_, o_, o_, o_, o_, o_, o_, o_, o_, o_, o_, o_, o_, o_, o_, o_, o_, c_ (mkCall Tryz.call67 (F67_ok h5) [] (by kernel_rfl) (by kernel_rfl)), m_, .pk true], F_, R_ [o_, o_, o_, o_, o_, o_, .op (.fresh 2 (intB .u8 [a1])), .op (.fresh 3 (intB .u8 [])), o_, o_, o_], R_ [o_, o_, o_, o_, o_, o_, c_ (mkCall Tryz.call68 (F68_ok h14) [] (by kernel_rfl) (by kernel_rfl))], R_ [o_, o_], F_, R_ [o_, o_, o_, o_, o_, o_, o_], F_, R_ [o_]] [some 0, some 1, some 3, none] (pc zlt1 <| pc ((fun h => h : (decide (((a0.b_n : Nat) : Int) > 0) = true → decide (((a0.b_n : Nat) : Int) > 0) = true))) <| pc ((fun h => h : (decide (((a0.b_n : Nat) : Int) > 0) = true → decide (((a0.b_n : Nat) : Int) > 0) = true))) <| pc ((fun h => h : (decide (((a0.b_n : Nat) : Int) > 0) = true → decide (((a0.b_n : Nat) : Int) > 0) = true))) <| pc ((fun _ => zlt1 : (decide (((a0.b_n : Nat) : Int) > 0) = true → 0 < 1))) <| pc ((fun h => h : (decide (((a0.b_n : Nat) : Int) > 0) = true → decide (((a0.b_n : Nat) : Int) > 0) = true))) <| pc h1 <| pc h2 <| pc ((fun h => h : (decide (((a0.b_n : Nat) : Int) > 0) = true → decide (((a0.b_n : Nat) : Int) > 0) = true))) <| pc h3 <| pc ((fun h => h : (decide (((a0.b_n : Nat) : Int) > 0) = true → decide (((a0.b_n : Nat) : Int) > 0) = true))) <| pc ((fun h => h : (decide (((a0.b_n : Nat) : Int) > 0) = true → decide (((a0.b_n : Nat) : Int) > 0) = true))) <| pc ((fun h => h : (decide (((a0.b_n : Nat) : Int) > 0) = true → decide (((a0.b_n : Nat) : Int) > 0) = true))) <| pc ((fun _ => zlt1 : (decide (((a0.b_n : Nat) : Int) > 0) = true → 0 < 1))) <| pc ((fun h => h : (decide (((a0.b_n : Nat) : Int) > 0) = true → decide (((a0.b_n : Nat) : Int) > 0) = true))) <| pc ((h4 : decide (((a0.b_n : Nat) : Int) > 0) = true)) <| pc ((h4 : decide (((a0.b_n : Nat) : Int) > 0) = true)) <| pc ((h4 : decide (((a0.b_n : Nat) : Int) > 0) = true)) <| pc ((h4 : decide (((a0.b_n : Nat) : Int) > 0) = true)) <| pc ((h4 : decide (((a0.b_n : Nat) : Int) > 0) = true)) <| pc ((h4 : decide (((a0.b_n : Nat) : Int) > 0) = true)) <| pc ((h6 : (!r1) = false)) <| pc zlt1 <| pc h10 <| pc h11 <| pc ((by decide : 1 ≤ 1)) <| pc zlt1 <| pc zlt1 <| pc ((by decide : (0 : Int) ≤ 0)) <| pc h12 <| pc h13 <| pc ((h15 : decide (r3 = 0) = false)) <| pc zlt1 <| pc ((h16 : decide (r3 = (((a0.b_n + 1) : Nat) : Int)) = false)) <| allP_nil) (by kernel_rfl) (by kernel_rfl)
  · obtain ⟨h18, h⟩ := of_chk h
    obtain ⟨h19, h⟩ := of_chk h
    obtain ⟨h20, h⟩ := of_chk h
    obtain ⟨h21, h⟩ := of_chk h
    obtain ⟨r5, h22, h⟩ := of_bnd h
    rcases of_ifb h with ⟨h23, h⟩ | ⟨h23, h⟩
    · replace h := Option.some.inj h
      subst h
      exact WM.retE mixed (e_F41 a0 a1 (((utf_DecoderO.mk 0 []), 1, [65533]))) [R_ [o_], R_ [o_, o_, o_, o_, o_, o_, o_, o_, o_, o_, o_, o_, o_, o_, o_, o_, o_, o_, o_, s_, s_, .pk false], F_, R_ [o_, o_, o_, o_, o_, o_, .op (.fresh 2 (intB .u8 [a1])), .op (.fresh 3 (intB .u8 [])), o_, o_, o_], R_ [o_, o_, o_, o_, o_, o_, c_ (mkCall Tryz.call68 (F68_ok h22) [] (by kernel_rfl) (by kernel_rfl))], R_ [o_, o_], T_, R_ [o_, o_, o_, o_], R_ [.op (.fresh 4 (intB .i32 [65533])), o_]] [some 0, some 1, none, some 4] (pc zlt1 <| pc ((fun h => h : (decide (((a0.b_n : Nat) : Int) > 0) = true → decide (((a0.b_n : Nat) : Int) > 0) = true))) <| pc ((fun h => h : (decide (((a0.b_n : Nat) : Int) > 0) = true → decide (((a0.b_n : Nat) : Int) > 0) = true))) <| pc ((fun h => h : (decide (((a0.b_n : Nat) : Int) > 0) = true → decide (((a0.b_n : Nat) : Int) > 0) = true))) <| pc ((fun _ => zlt1 : (decide (((a0.b_n : Nat) : Int) > 0) = true → 0 < 1))) <| pc ((fun h => h : (decide (((a0.b_n : Nat) : Int) > 0) = true → decide (((a0.b_n : Nat) : Int) > 0) = true))) <| pc h1 <| pc h2 <| pc ((fun h => h : (decide (((a0.b_n : Nat) : Int) > 0) = true → decide (((a0.b_n : Nat) : Int) > 0) = true))) <| pc h3 <| pc ((fun h => h : (decide (((a0.b_n : Nat) : Int) > 0) = true → decide (((a0.b_n : Nat) : Int) > 0) = true))) <| pc ((fun h => h : (decide (((a0.b_n : Nat) : Int) > 0) = true → decide (((a0.b_n : Nat) : Int) > 0) = true))) <| pc ((fun h => h : (decide (((a0.b_n : Nat) : Int) > 0) = true → decide (((a0.b_n : Nat) : Int) > 0) = true))) <| pc ((fun _ => zlt1 : (decide (((a0.b_n : Nat) : Int) > 0) = true → 0 < 1))) <| pc ((fun h => h : (decide (((a0.b_n : Nat) : Int) > 0) = true → decide (((a0.b_n : Nat) : Int) > 0) = true))) <| pc ((h4 : decide (((a0.b_n : Nat) : Int) > 0) = false)) <| pc ((h4 : decide (((a0.b_n : Nat) : Int) > 0) = false)) <| pc ((h4 : decide (((a0.b_n : Nat) : Int) > 0) = false)) <| pc ((rfl : false = false)) <| pc zlt1 <| pc h18 <| pc h19 <| pc ((by decide : 1 ≤ 1)) <| pc zlt1 <| pc zlt1 <| pc ((by decide : (0 : Int) ≤ 0)) <| pc h20 <| pc h21 <| pc ((h23 : decide (r5 = 0) = true)) <| pc zlt1 <| allP_nil) (by kernel_rfl) (by kernel_rfl)
    · rcases of_ifb h with ⟨h24, h⟩ | ⟨h24, h⟩
      · obtain ⟨r6, h25, h⟩ := of_bnd h
        replace h := Option.some.inj h
        subst h
        exact WM.retE mixed (e_F41 a0 a1 (((utf_DecoderO.mk 0 []), 1, [r6]))) [R_ [o_], R_ [o_, o_, o_, o_, o_, o_, o_, o_, o_, o_, o_, o_, o_, o_, o_, o_, o_, o_, o_, s_, s_, .pk false], F_, R_ [o_, o_, o_, o_, o_, o_, .op (.fresh 2 (intB .u8 [a1])), .op (.fresh 3 (intB .u8 [])), o_, o_, o_], R_ [o_, o_, o_, o_, o_, o_, c_ (mkCall Tryz.call68 (F68_ok h22) [] (by kernel_rfl) (by kernel_rfl))], R_ [o_, o_], F_, R_ [o_, o_, o_, o_, o_, o_, o_], T_, R_ [o_, c_ (mkCall Tryz.call69 (F69_ok h25) [0, 3] (by kernel_rfl) (by kernel_rfl)), o_], R_ [o_, o_, o_, o_], R_ [o_, .op (.fresh 4 (intB .i32 [r6])), o_]] [some 0, some 1, none, some 4] (pc zlt1 <| pc ((fun h => h : (decide (((a0.b_n : Nat) : Int) > 0) = true → decide (((a0.b_n : Nat) : Int) > 0) = true))) <| pc ((fun h => h : (decide (((a0.b_n : Nat) : Int) > 0) = true → decide (((a0.b_n : Nat) : Int) > 0) = true))) <| pc ((fun h => h : (decide (((a0.b_n : Nat) : Int) > 0) = true → decide (((a0.b_n : Nat) : Int) > 0) = true))) <| pc ((fun _ => zlt1 : (decide (((a0.b_n : Nat) : Int) > 0) = true → 0 < 1))) <| pc ((fun h => h : (decide (((a0.b_n : Nat) : Int) > 0) = true → decide (((a0.b_n : Nat) : Int) > 0) = true))) <| pc h1 <| pc h2 <| pc ((fun h => h : (decide (((a0.b_n : Nat) : Int) > 0) = true → decide (((a0.b_n : Nat) : Int) > 0) = true))) <| pc h3 <| pc ((fun h => h : (decide (((a0.b_n : Nat) : Int) > 0) = true → decide (((a0.b_n : Nat) : Int) > 0) = true))) <| pc ((fun h => h : (decide (((a0.b_n : Nat) : Int) > 0) = true → decide (((a0.b_n : Nat) : Int) > 0) = true))) <| pc ((fun h => h : (decide (((a0.b_n : Nat) : Int) > 0) = true → decide (((a0.b_n : Nat) : Int) > 0) = true))) <| pc ((fun _ => zlt1 : (decide (((a0.b_n : Nat) : Int) > 0) = true → 0 < 1))) <| pc ((fun h => h : (decide (((a0.b_n : Nat) : Int) > 0) = true → decide (((a0.b_n : Nat) : Int) > 0) = true))) <| pc ((h4 : decide (((a0.b_n : Nat) : Int) > 0) = false)) <| pc ((h4 : decide (((a0.b_n : Nat) : Int) > 0) = false)) <| pc ((h4 : decide (((a0.b_n : Nat) : Int) > 0) = false)) <| pc ((rfl : false = false)) <| pc zlt1 <| pc h18 <| pc h19 <| pc ((by decide : 1 ≤ 1)) <| pc zlt1 <| pc zlt1 <| pc ((by decide : (0 : Int) ≤ 0)) <| pc h20 <| pc h21 <| pc ((h23 : decide (r5 = 0) = false)) <| pc zlt1 <| pc ((h24 : decide (r5 = (((a0.b_n + 1) : Nat) : Int)) = true)) <| pc zlt1 <| allP_nil) (by kernel_rfl) (by kernel_rfl)
      · replace h := Option.some.inj h
        subst h
        exact WM.retE mixed (e_F41 a0 a1 (((utf_DecoderO.mk (a0.b_n + 1) (a0.b ++ [a1])), 0, []))) [R_ [o_], R_ [o_, o_, o_, o_, o_, o_, o_, o_, o_, o_, o_, o_, o_, o_, o_, o_, o_, o_, o_, s_, s_, .pk false], F_, R_ [o_, o_, o_, o_, o_, o_, .op (.fresh 2 (intB .u8 [a1])), .op (.fresh 3 (intB .u8 [])), o_, o_, o_], R_ [o_, o_, o_, o_, o_, o_, c_ (mkCall Tryz.call68 (F68_ok h22) [] (by kernel_rfl) (by kernel_rfl))], R_ [o_, o_], F_, R_ [o_, o_, o_, o_, o_, o_, o_], F_, R_ [o_]] [some 0, some 1, some 3, none] (pc zlt1 <| pc ((fun h => h : (decide (((a0.b_n : Nat) : Int) > 0) = true → decide (((a0.b_n : Nat) : Int) > 0) = true))) <| pc ((fun h => h : (decide (((a0.b_n : Nat) : Int) > 0) = true → decide (((a0.b_n : Nat) : Int) > 0) = true))) <| pc ((fun h => h : (decide (((a0.b_n : Nat) : Int) > 0) = true → decide (((a0.b_n : Nat) : Int) > 0) = true))) <| pc ((fun _ => zlt1 : (decide (((a0.b_n : Nat) : Int) > 0) = true → 0 < 1))) <| pc ((fun h => h : (decide (((a0.b_n : Nat) : Int) > 0) = true → decide (((a0.b_n : Nat) : Int) > 0) = true))) <| pc h1 <| pc h2 <| pc ((fun h => h : (decide (((a0.b_n : Nat) : Int) > 0) = true → decide (((a0.b_n : Nat) : Int) > 0) = true))) <| pc h3 <| pc ((fun h => h : (decide (((a0.b_n : Nat) : Int) > 0) = true → decide (((a0.b_n : Nat) : Int) > 0) = true))) <| pc ((fun h => h : (decide (((a0.b_n : Nat) : Int) > 0) = true → decide (((a0.b_n : Nat) : Int) > 0) = true))) <| pc ((fun h => h : (decide (((a0.b_n : Nat) : Int) > 0) = true → decide (((a0.b_n : Nat) : Int) > 0) = true))) <| pc ((fun _ => zlt1 : (decide (((a0.b_n : Nat) : Int) > 0) = true → 0 < 1))) <| pc ((fun h => h : (decide (((a0.b_n : Nat) : Int) > 0) = true → decide (((a0.b_n : Nat) : Int) > 0) = true))) <| pc ((h4 : decide (((a0.b_n : Nat) : Int) > 0) = false)) <| pc ((h4 : decide (((a0.b_n : Nat) : Int) > 0) = false)) <| pc ((h4 : decide (((a0.b_n : Nat) : Int) > 0) = false)) <| pc ((rfl : false = false)) <| pc zlt1 <| pc h18 <| pc h19 <| pc ((by decide : 1 ≤ 1)) <| pc zlt1 <| pc zlt1 <| pc ((by decide : (0 : Int) ≤ 0)) <| pc h20 <| pc h21 <| pc ((h23 : decide (r5 = 0) = false)) <| pc zlt1 <| pc ((h24 : decide (r5 = (((a0.b_n + 1) : Nat) : Int)) = false)) <| allP_nil) (by kernel_rfl) (by kernel_rfl)

/-! ### F26: function 26 (*tickertape/utf.Decoder).Write -/
def F26_p1_b (f : Nat) (g1 : utf_DecoderO → Nat → (List Int) → Int → Option (utf_DecoderO × Nat × List Int)) (a1_n : Nat) (a1 : List Int) (a0_1 : utf_DecoderO) (x5_n_1 : Nat) (x5_1 : List Int) (x10_1 : Int) : Option (utf_DecoderO × Nat × List Int) :=
  ifb (decide (x10_1 < ((a1_n : Nat) : Int))) (
    chk (0 ≤ x10_1) <|
    chk (x10_1 < ((a1_n : Nat) : Int)) <|
    chk ((0 + x10_1.toNat) < a1.length) <|
    bnd (F41 f a0_1 (a1.getD (0 + x10_1.toNat) 0)) fun r1 =>
    chk (x5_n_1 = x5_1.length) <|
    chk (((((x5_n_1 + (((r1.2.2.drop 0).take r1.2.1)).length)) * 4 : Nat) : Int) ≤ 140737488355328) <|
    chk ((0 + r1.2.1) ≤ r1.2.2.length) <|
    chk (inR (x10_1 + 1)) <|
    g1 r1.1 (x5_n_1 + (((r1.2.2.drop 0).take r1.2.1)).length) (x5_1 ++ (((r1.2.2.drop 0).take r1.2.1).map fun y => y)) (x10_1 + 1)) (
    some ((a0_1, x5_n_1, x5_1)))
def F26_p1 (f : Nat) (a1_n : Nat) (a1 : List Int) : Nat → utf_DecoderO → Nat → (List Int) → Int → Option (utf_DecoderO × Nat × List Int)
  | 0, _, _, _, _ => none
  | j + 1, a0_1, x5_n_1, x5_1, x10_1 => F26_p1_b f (F26_p1 f a1_n a1 j) a1_n a1 a0_1 x5_n_1 x5_1 x10_1
def F26 (f : Nat) (a0 : utf_DecoderO) (a1_n : Nat) (a1 : List Int) : Option (utf_DecoderO × Nat × List Int) :=
  F26_p1 f a1_n a1 f a0 0 [] 0
def v_F26 (a0 : utf_DecoderO) (a1_n : Nat) (a1 : List Int) (y : utf_DecoderO × Nat × List Int) : V :=
  .sl 4 0 y.2.1
def e_F26 (a0 : utf_DecoderO) (a1_n : Nat) (a1 : List Int) (y : utf_DecoderO × Nat × List Int) : Env :=
  [(4, ⟨none, .sl 4 0 y.2.1⟩)]
def x_F26 (a0 : utf_DecoderO) (a1_n : Nat) (a1 : List Int) (y : utf_DecoderO × Nat × List Int) : List (Option Blk) :=
  [some (B_utf_DecoderO 3 y.1), none, some (intB .u8 a1), some (intB .u8 y.1.b), some (intB .i32 y.2.2)]
set_option maxRecDepth 100000 in
set_option maxHeartbeats 4000000 in
theorem F26_p1_bok {cx : Cx} {f : Nat} {I1 : Act → World → Prop} {g1 : utf_DecoderO → Nat → (List Int) → Int → Option (utf_DecoderO × Nat × List Int)} {a0 : utf_DecoderO} {a1_n : Nat} {a1 : List Int} {a0_1 : utf_DecoderO} {x5_n_1 : Nat} {x5_1 : List Int} {x10_1 : Int} {y : utf_DecoderO × Nat × List Int} (hg1 : ∀ (a0_1 : utf_DecoderO) (x5_n_1 : Nat) (x5_1 : List Int) (x10_1 : Int), g1 a0_1 x5_n_1 x5_1 x10_1 = some y → ∀ a w, cx.In G0 21 3 [(0, ⟨none, .p 0 0 0⟩), (5, ⟨none, .sl 4 0 x5_n_1⟩), (8, ⟨none, .sl 2 0 a1_n⟩), (9, ⟨none, .i .i64 ((a1_n : Nat) : Int)⟩), (10, ⟨none, .i .i64 x10_1⟩)] [some (B_utf_DecoderO 3 a0_1), none, some (intB .u8 a1), some (intB .u8 a0_1.b), some (intB .i32 x5_1)] a w → I1 a w) (h : F26_p1_b f g1 a1_n a1 a0_1 x5_n_1 x5_1 x10_1 = some y) :
    WM Tryz.prog G0 21 3 Tryz.f26.results.toList (v_F26 a0 a1_n a1 y) (x_F26 a0 a1_n a1 y) cx (nav [.r, .r, .r, .l I1] [.code (bodyOf Tryz.f26)]) [(0, ⟨none, .p 0 0 0⟩), (5, ⟨none, .sl 4 0 x5_n_1⟩), (8, ⟨none, .sl 2 0 a1_n⟩), (9, ⟨none, .i .i64 ((a1_n : Nat) : Int)⟩), (10, ⟨none, .i .i64 x10_1⟩)] [some (B_utf_DecoderO 3 a0_1), none, some (intB .u8 a1), some (intB .u8 a0_1.b), some (intB .i32 x5_1)] := by
  unfold F26_p1_b at h
  rcases of_ifb h with ⟨h1, h⟩ | ⟨h1, h⟩
  · obtain ⟨h2, h⟩ := of_chk h
    obtain ⟨h3, h⟩ := of_chk h
    obtain ⟨h4, h⟩ := of_chk h
    obtain ⟨r1, h5, h⟩ := of_bnd h
    obtain ⟨h6, h⟩ := of_chk h
    obtain ⟨h7, h⟩ := of_chk h
    obtain ⟨h8, h⟩ := of_chk h
    obtain ⟨h9, h⟩ := of_chk h
    exact WM.cut mixed [R_ [o_], T_, R_ [o_, o_, o_], R_ [o_, o_, o_, c_ (mkCall Tryz.call41 (F41_ok h5) [0, 3, 5, 6] (by kernel_rfl) (by kernel_rfl)), .op (.fresh 7 (intB .u8 [])), o_], R_ [o_, o_]] [some 0, some 1, some 2, some 5, some 7] (pc ((h1 : decide (x10_1 < ((a1_n : Nat) : Int)) = true)) <| pc h2 <| pc h3 <| pc h4 <| pc h6 <| pc h7 <| pc h8 <| pc h9 <| allP_nil) (WM.again (k := (nav [.r, .r, .r, .n] [.code (bodyOf Tryz.f26)]).tail) (hg1 _ _ _ _ h)) (by kernel_rfl)
  · replace h := Option.some.inj h
    subst h
    exact WM.retE mixed (e_F26 a0 a1_n a1 ((a0_1, x5_n_1, x5_1))) [R_ [o_], F_, R_ [o_, o_]] [some 0, some 1, some 2, some 3, some 4] (pc ((h1 : decide (x10_1 < ((a1_n : Nat) : Int)) = false)) <| allP_nil) (by kernel_rfl) (by kernel_rfl)
set_option maxRecDepth 100000 in
set_option maxHeartbeats 4000000 in
theorem F26_p1_ok {cx : Cx} {f : Nat} {a0 : utf_DecoderO} {a1_n : Nat} {a1 : List Int} {a0_1 : utf_DecoderO} {x5_n_1 : Nat} {x5_1 : List Int} {x10_1 : Int} {j : Nat} {y : utf_DecoderO × Nat × List Int} (h : F26_p1 f a1_n a1 j a0_1 x5_n_1 x5_1 x10_1 = some y) :
    WM Tryz.prog G0 21 3 Tryz.f26.results.toList (v_F26 a0 a1_n a1 y) (x_F26 a0 a1_n a1 y) cx (nav [.r, .r, .r, .n] [.code (bodyOf Tryz.f26)]) [(0, ⟨none, .p 0 0 0⟩), (5, ⟨none, .sl 4 0 x5_n_1⟩), (8, ⟨none, .sl 2 0 a1_n⟩), (9, ⟨none, .i .i64 ((a1_n : Nat) : Int)⟩), (10, ⟨none, .i .i64 x10_1⟩)] [some (B_utf_DecoderO 3 a0_1), none, some (intB .u8 a1), some (intB .u8 a0_1.b), some (intB .i32 x5_1)] := by
  refine WM.loopN (X := utf_DecoderO × Nat × List Int × Int) (y := y) (kb := fun I1 => (nav [.r, .r, .r, .l I1] [.code (bodyOf Tryz.f26)])) (by intro I; kernel_rfl) (fun j x => F26_p1 f a1_n a1 j x.1 x.2.1 x.2.2.1 x.2.2.2) (fun x => [(0, ⟨none, .p 0 0 0⟩), (5, ⟨none, .sl 4 0 x.2.1⟩), (8, ⟨none, .sl 2 0 a1_n⟩), (9, ⟨none, .i .i64 ((a1_n : Nat) : Int)⟩), (10, ⟨none, .i .i64 x.2.2.2⟩)]) (fun x => [some (B_utf_DecoderO 3 x.1), none, some (intB .u8 a1), some (intB .u8 x.1.b), some (intB .i32 x.2.2.1)]) ?_ (j := j) (x := (a0_1, x5_n_1, x5_1, x10_1)) h
  intro j x I1 h hI
  cases j with
  | zero => cases h
  | succ j => exact F26_p1_bok (fun x0 x1 x2 x3 => hI j (x0, x1, x2, x3) (Nat.lt_succ_self j)) h
set_option maxRecDepth 100000 in
set_option maxHeartbeats 4000000 in
theorem F26_ok {f : Nat} {a0 : utf_DecoderO} {a1_n : Nat} {a1 : List Int} {y : utf_DecoderO × Nat × List Int} (h : F26 f a0 a1_n a1 = some y) :
    Spec Tryz.prog G0 26 [.p 0 0 0, .sl 2 0 a1_n] [some (B_utf_DecoderO 1 a0), some (intB .u8 a0.b), some (intB .u8 a1)] (v_F26 a0 a1_n a1 y) (x_F26 a0 a1_n a1 y) :=
  Spec.ofM (fn := Tryz.f26) (c := bodyOf Tryz.f26) (n := 21) (rs := Tryz.f26.results.toList) Tryz.func26 (by kernel_rfl) (by kernel_rfl) (by kernel_rfl) (by kernel_rfl) fun cx => by
  unfold F26 at h
  exact WM.cut mixed [R_ [o_], R_ [o_], R_ [o_, o_, o_]] [some 0, some 1, some 2, some 1, none] (allP_nil) (F26_p1_ok h) (by kernel_rfl)

/-! ### F60: function 60 (*tickertape/esc.Parser).goes -/
def F60 (f : Nat) (a0 : esc_ParserO) (a1 : Int) : Option (esc_ParserO) :=
  some ((esc_ParserO.mk a1 1 [(-1)] false 0 0 false 0 [] a0.out_n a0.out))
def v_F60 (a0 : esc_ParserO) (a1 : Int) (y : esc_ParserO) : V :=
  .tup []
def e_F60 (a0 : esc_ParserO) (a1 : Int) (y : esc_ParserO) : Env :=
  []
def x_F60 (a0 : esc_ParserO) (a1 : Int) (y : esc_ParserO) : List (Option Blk) :=
  [some (B_esc_ParserO 4 5 3 y), none, none, some (blk_esc_Event y.out), some (intB .i64 y.params), some (intB .i32 y.text)]
set_option maxRecDepth 100000 in
set_option maxHeartbeats 4000000 in
theorem F60_ok {f : Nat} {a0 : esc_ParserO} {a1 : Int} {y : esc_ParserO} (h : F60 f a0 a1 = some y) :
    Spec Tryz.prog G0 60 [.p 0 0 0, .i .i64 a1] [some (B_esc_ParserO 1 2 3 a0), some (intB .i64 a0.params), some (intB .i32 a0.text), some (blk_esc_Event a0.out)] (v_F60 a0 a1 y) (x_F60 a0 a1 y) :=
  Spec.ofM (fn := Tryz.f60) (c := bodyOf Tryz.f60) (n := 27) (rs := Tryz.f60.results.toList) Tryz.func60 (by kernel_rfl) (by kernel_rfl) (by kernel_rfl) (by kernel_rfl) fun cx => by
  unfold F60 at h
  replace h := Option.some.inj h
  subst h
  exact WM.retE mixed (e_F60 a0 a1 ((esc_ParserO.mk a1 1 [(-1)] false 0 0 false 0 [] a0.out_n a0.out))) [R_ [o_, o_, o_, o_, o_, o_, o_, o_, .op (.fresh 4 (intB .i64 [(-1)])), o_, o_, o_, o_, o_, o_, o_, o_, o_, o_, o_, o_, o_, o_, o_, o_, o_, o_, o_, o_, o_]] [some 0, some 1, some 2, some 3, some 4, none] (pc zlt1 <| pc zlt1 <| pc zlt1 <| pc zlt1 <| pc zlt1 <| pc zlt1 <| pc zlt1 <| allP_nil) (by kernel_rfl) (by kernel_rfl)

/-! ### F96: function 96 (*tickertape/esc.Parser).tells -/
def F96 (f : Nat) (a0 : esc_ParserO) (a1 : esc_Event) : Option (esc_ParserO) :=
  chk (a0.out_n = a0.out.length) <|
  chk (((((a0.out_n + 1)) * 72 : Nat) : Int) ≤ 140737488355328) <|
  some (({ a0 with out_n := (a0.out_n + 1), out := (a0.out ++ [a1]) } : esc_ParserO))
def v_F96 (a0 : esc_ParserO) (a1 : esc_Event) (y : esc_ParserO) : V :=
  .tup []
def e_F96 (a0 : esc_ParserO) (a1 : esc_Event) (y : esc_ParserO) : Env :=
  []
def x_F96 (a0 : esc_ParserO) (a1 : esc_Event) (y : esc_ParserO) : List (Option Blk) :=
  [some (B_esc_ParserO 1 2 4 y), some (intB .i64 y.params), some (intB .i32 y.text), none, some (blk_esc_Event y.out)]
set_option maxRecDepth 100000 in
set_option maxHeartbeats 4000000 in
theorem F96_ok {f : Nat} {a0 : esc_ParserO} {a1 : esc_Event} {y : esc_ParserO} (h : F96 f a0 a1 = some y) :
    Spec Tryz.prog G0 96 [.p 0 0 0, .agg [.i .i64 a1.Kind, .i .i32 a1.Rune, .ro Int 1 (fun n => [.i .i64 n]) 0 a1.Params, .i .i32 a1.Private, .i .i32 a1.Inter, .i .i32 a1.Final, .s a1.Text]] [some (B_esc_ParserO 1 2 3 a0), some (intB .i64 a0.params), some (intB .i32 a0.text), some (blk_esc_Event a0.out)] (v_F96 a0 a1 y) (x_F96 a0 a1 y) :=
  Spec.ofM (fn := Tryz.f96) (c := bodyOf Tryz.f96) (n := 14) (rs := Tryz.f96.results.toList) Tryz.func96 (by kernel_rfl) (by kernel_rfl) (by kernel_rfl) (by kernel_rfl) fun cx => by
  unfold F96 at h
  obtain ⟨h1, h⟩ := of_chk h
  obtain ⟨h2, h⟩ := of_chk h
  replace h := Option.some.inj h
  subst h
  exact WM.retE mixed (e_F96 a0 a1 (({ a0 with out_n := (a0.out_n + 1), out := (a0.out ++ [a1]) } : esc_ParserO))) [R_ [.op (.fresh 4 ((⟨esc_Event, 7, enc_esc_Event, (fun _ => a1), zero_esc_Event, [a1]⟩ : Blk)))], R_ [o_, o_, o_, o_, o_, o_, .op (.fresh 5 ((⟨esc_Event, 7, enc_esc_Event, (fun _ => a1), zero_esc_Event, [a1]⟩ : Blk))), .re 3 ((⟨esc_Event, 7, enc_esc_Event, (fun _ => a1), zero_esc_Event, a0.out⟩ : Blk)) false (.fresh 6 (intB .u8 [])), o_, o_, o_]] [some 0, some 1, some 2, some 3, some 6] (pc zlt1 <| pc zlt1 <| pc h1 <| pc h2 <| pc ((by decide : 1 ≤ 1)) <| pc zlt1 <| allP_nil) (by kernel_rfl) (by kernel_rfl)

/-! ### F95: function 95 (*tickertape/esc.Parser).low -/
def F95 (f : Nat) (a0 : esc_ParserO) (a1 : Int) : Option (esc_ParserO × Bool) :=
  ifb (decide (a1 < 32)) (
    bnd (F96 f a0 (esc_Event.mk 2 a1 [] 0 0 0 [])) fun r1 =>
    some ((r1, decide (a1 < 32)))) (
    some ((a0, decide (a1 < 32))))
def v_F95 (a0 : esc_ParserO) (a1 : Int) (y : esc_ParserO × Bool) : V :=
  .b y.2
def e_F95 (a0 : esc_ParserO) (a1 : Int) (y : esc_ParserO × Bool) : Env :=
  [(4, ⟨none, .b y.2⟩)]
def x_F95 (a0 : esc_ParserO) (a1 : Int) (y : esc_ParserO × Bool) : List (Option Blk) :=
  [some (B_esc_ParserO 1 2 4 y.1), some (intB .i64 y.1.params), some (intB .i32 y.1.text), none, some (blk_esc_Event y.1.out)]
set_option maxRecDepth 100000 in
set_option maxHeartbeats 4000000 in
theorem F95_ok {f : Nat} {a0 : esc_ParserO} {a1 : Int} {y : esc_ParserO × Bool} (h : F95 f a0 a1 = some y) :
    Spec Tryz.prog G0 95 [.p 0 0 0, .i .i32 a1] [some (B_esc_ParserO 1 2 3 a0), some (intB .i64 a0.params), some (intB .i32 a0.text), some (blk_esc_Event a0.out)] (v_F95 a0 a1 y) (x_F95 a0 a1 y) :=
  Spec.ofM (fn := Tryz.f95) (c := bodyOf Tryz.f95) (n := 13) (rs := Tryz.f95.results.toList) Tryz.func95 (by kernel_rfl) (by kernel_rfl) (by kernel_rfl) (by kernel_rfl) fun cx => by
  unfold F95 at h
  rcases of_ifb h with ⟨h1, h⟩ | ⟨h1, h⟩
  · obtain ⟨r1, h2, h⟩ := of_bnd h
    replace h := Option.some.inj h
    subst h
    exact WM.retE mixed (e_F95 a0 a1 ((r1, decide (a1 < 32)))) [R_ [o_], R_ [o_, o_], T_, R_ [o_, o_, .weak .auto (.agg [.i .i64 2, .i .i32 a1, .ro Int 1 (fun n => [.i .i64 n]) 0 [], .i .i32 0, .i .i32 0, .i .i32 0, .s []]), c_ (mkCall Tryz.call96 (F96_ok h2) [0, 1, 2, 3, 4] (by kernel_rfl) (by kernel_rfl))], R_ [o_, o_, o_]] [some 0, some 1, some 2, some 3, some 4] (pc ((h1 : decide (a1 < 32) = true)) <| allP_nil) (by kernel_rfl) (by kernel_rfl)
  · replace h := Option.some.inj h
    subst h
    exact WM.retE mixed (e_F95 a0 a1 ((a0, decide (a1 < 32)))) [R_ [o_], R_ [o_, o_], F_, R_ [o_, o_, o_]] [some 0, some 1, some 2, some 3, some 3] (pc ((h1 : decide (a1 < 32) = false)) <| allP_nil) (by kernel_rfl) (by kernel_rfl)

/-! ### F61: function 61 (*tickertape/esc.Parser).ground -/
def F61 (f : Nat) (a0 : esc_ParserO) (a1 : Int) : Option (esc_ParserO) :=
  bnd (F95 f a0 a1) fun r1 =>
  ifb (((!r1.2) && (decide (a1 < 127) || decide (a1 > 159)))) (
    bnd (F96 f r1.1 (esc_Event.mk 1 a1 [] 0 0 0 [])) fun r2 =>
    some (r2)) (
    some (r1.1))
def v_F61 (a0 : esc_ParserO) (a1 : Int) (y : esc_ParserO) : V :=
  .tup []
def e_F61 (a0 : esc_ParserO) (a1 : Int) (y : esc_ParserO) : Env :=
  []
def x_F61 (a0 : esc_ParserO) (a1 : Int) (y : esc_ParserO) : List (Option Blk) :=
  [some (B_esc_ParserO 1 2 4 y), some (intB .i64 y.params), some (intB .i32 y.text), none, some (blk_esc_Event y.out)]
set_option maxRecDepth 100000 in
set_option maxHeartbeats 4000000 in
theorem F61_ok {f : Nat} {a0 : esc_ParserO} {a1 : Int} {y : esc_ParserO} (h : F61 f a0 a1 = some y) :
    Spec Tryz.prog G0 61 [.p 0 0 0, .i .i32 a1] [some (B_esc_ParserO 1 2 3 a0), some (intB .i64 a0.params), some (intB .i32 a0.text), some (blk_esc_Event a0.out)] (v_F61 a0 a1 y) (x_F61 a0 a1 y) :=
  Spec.ofM (fn := Tryz.f61) (c := bodyOf Tryz.f61) (n := 20) (rs := Tryz.f61.results.toList) Tryz.func61 (by kernel_rfl) (by kernel_rfl) (by kernel_rfl) (by kernel_rfl) fun cx => by
  unfold F61 at h
  obtain ⟨r1, h1, h⟩ := of_bnd h
  rcases of_ifb h with ⟨h2, h⟩ | ⟨h2, h⟩
  · obtain ⟨r2, h3, h⟩ := of_bnd h
    replace h := Option.some.inj h
    subst h
    exact WM.retE mixed (e_F61 a0 a1 (r2)) [R_ [o_, o_, c_ (mkCall Tryz.call95 (F95_ok h1) [0, 1, 2, 3, 4] (by kernel_rfl) (by kernel_rfl)), o_, o_, o_, o_, o_, o_, o_, o_, o_], T_, R_ [o_, o_, .weak .auto (.agg [.i .i64 1, .i .i32 a1, .ro Int 1 (fun n => [.i .i64 n]) 0 [], .i .i32 0, .i .i32 0, .i .i32 0, .s []]), c_ (mkCall Tryz.call96 (F96_ok h3) [0, 1, 2, 4, 5] (by kernel_rfl) (by kernel_rfl))]] [some 0, some 1, some 2, some 3, some 5] (pc ((fun h => h : ((!r1.2) = true → (!r1.2) = true))) <| pc ((fun h => h : ((!r1.2) = true → (!r1.2) = true))) <| pc ((fun h => h : (((!r1.2) && (!(decide (a1 < 127)))) = true → ((!r1.2) && (!(decide (a1 < 127)))) = true))) <| pc ((fun h => h : ((!r1.2) = true → (!r1.2) = true))) <| pc ((fun k1 k2 => (and_t k1 (not_t k2)) : ((!r1.2) = true → (decide (a1 < 127) = false → ((!r1.2) && (!(decide (a1 < 127)))) = true)))) <| pc ((fun k2 => k2 : ((!r1.2) = true → (!r1.2) = true))) <| pc ((h2 : ((!r1.2) && (decide (a1 < 127) || decide (a1 > 159))) = true)) <| allP_nil) (by kernel_rfl) (by kernel_rfl)
  · replace h := Option.some.inj h
    subst h
    exact WM.retE mixed (e_F61 a0 a1 (r1.1)) [R_ [o_, o_, c_ (mkCall Tryz.call95 (F95_ok h1) [0, 1, 2, 3, 4] (by kernel_rfl) (by kernel_rfl)), o_, o_, o_, o_, o_, o_, o_, o_, o_], F_] [some 0, some 1, some 2, some 3, some 4] (pc ((fun h => h : ((!r1.2) = true → (!r1.2) = true))) <| pc ((fun h => h : ((!r1.2) = true → (!r1.2) = true))) <| pc ((fun h => h : (((!r1.2) && (!(decide (a1 < 127)))) = true → ((!r1.2) && (!(decide (a1 < 127)))) = true))) <| pc ((fun h => h : ((!r1.2) = true → (!r1.2) = true))) <| pc ((fun k1 k2 => (and_t k1 (not_t k2)) : ((!r1.2) = true → (decide (a1 < 127) = false → ((!r1.2) && (!(decide (a1 < 127)))) = true)))) <| pc ((fun k2 => k2 : ((!r1.2) = true → (!r1.2) = true))) <| pc ((h2 : ((!r1.2) && (decide (a1 < 127) || decide (a1 > 159))) = false)) <| allP_nil) (by kernel_rfl) (by kernel_rfl)

/-! ### F62: function 62 (*tickertape/esc.Parser).escape -/
def F62_p2 (f : Nat) (a0_2 : esc_ParserO) : Option (esc_ParserO) :=
  bnd (F60 f a0_2 0) fun r6 =>
  some (r6)
def F62_p1 (f : Nat) (r1 : esc_ParserO × Bool) (a1 : Int) (x12_1 : Bool) : Option (esc_ParserO) :=
  ifb (x12_1) (
    some (r1.1)) (
    ifb (decide (a1 = 91)) (
      bnd (F60 f r1.1 3) fun r2 =>
      some (r2)) (
      ifb (decide (a1 = 93)) (
        bnd (F60 f r1.1 4) fun r3 =>
        some (r3)) (
        ifb ((((decide (a1 = 80) || decide (a1 = 88)) || decide (a1 = 94)) || decide (a1 = 95))) (
          bnd (F60 f r1.1 5) fun r4 =>
          some (r4)) (
          ifb (decide (a1 < 48)) (
            some (({ r1.1 with state := 2, inter := a1 } : esc_ParserO))) (
            ifb (decide (a1 < 127)) (
              bnd (F96 f r1.1 (esc_Event.mk 3 0 [] 0 0 a1 [])) fun r5 =>
              F62_p2 f r5) (
              F62_p2 f r1.1))))))
def F62 (f : Nat) (a0 : esc_ParserO) (a1 : Int) : Option (esc_ParserO) :=
  bnd (F95 f a0 a1) fun r1 =>
  ifb (r1.2) (
    F62_p1 f r1 a1 r1.2) (
    F62_p1 f r1 a1 (decide (a1 = 127)))
def v_F62 (a0 : esc_ParserO) (a1 : Int) (y : esc_ParserO) : V :=
  .tup []
def e_F62 (a0 : esc_ParserO) (a1 : Int) (y : esc_ParserO) : Env :=
  []
def x_F62 (a0 : esc_ParserO) (a1 : Int) (y : esc_ParserO) : List (Option Blk) :=
  [some (B_esc_ParserO 4 5 6 y), none, none, none, some (intB .i64 y.params), some (intB .i32 y.text), some (blk_esc_Event y.out)]
set_option maxRecDepth 100000 in
set_option maxHeartbeats 4000000 in
theorem F62_p2_ok {cx : Cx} {f : Nat} {a0 : esc_ParserO} {a1 : Int} {a0_2 : esc_ParserO} {y : esc_ParserO} (h : F62_p2 f a0_2 = some y) :
    WM Tryz.prog G0 55 4 Tryz.f62.results.toList (v_F62 a0 a1 y) (x_F62 a0 a1 y) cx (nav [.r, .t, .f, .r, .f, .r, .f, .r, .f, .r, .f, .r, .t, .r, .n] [.code (bodyOf Tryz.f62)]) [(0, ⟨none, .p 0 0 0⟩)] [some (B_esc_ParserO 1 2 4 a0_2), some (intB .i64 a0_2.params), some (intB .i32 a0_2.text), none, some (blk_esc_Event a0_2.out)] := by
  unfold F62_p2 at h
  obtain ⟨r6, h13, h⟩ := of_bnd h
  replace h := Option.some.inj h
  subst h
  exact WM.retE mixed (e_F62 a0 a1 (r6)) [R_ [o_, c_ (mkCall Tryz.call60 (F60_ok h13) [0, 1, 2, 4, 5, 6] (by kernel_rfl) (by kernel_rfl))]] [some 0, some 1, some 2, some 3, some 5, some 6, some 4] (allP_nil) (by kernel_rfl) (by kernel_rfl)
set_option maxRecDepth 100000 in
set_option maxHeartbeats 4000000 in
theorem F62_p1_ok {cx : Cx} {f : Nat} {a0 : esc_ParserO} {a1 : Int} {r1 : esc_ParserO × Bool} {x12_1 : Bool} {y : esc_ParserO} (h : F62_p1 f r1 a1 x12_1 = some y) :
    WM Tryz.prog G0 55 4 Tryz.f62.results.toList (v_F62 a0 a1 y) (x_F62 a0 a1 y) cx (nav [.r, .t, .n] [.code (bodyOf Tryz.f62)]) [(0, ⟨none, .p 0 0 0⟩), (1, ⟨none, .i .i32 a1⟩), (12, ⟨none, .b x12_1⟩)] [some (B_esc_ParserO 1 2 4 r1.1), some (intB .i64 r1.1.params), some (intB .i32 r1.1.text), none, some (blk_esc_Event r1.1.out)] := by
  unfold F62_p1 at h
  rcases of_ifb h with ⟨h3, h⟩ | ⟨h3, h⟩
  · replace h := Option.some.inj h
    subst h
    exact WM.retE mixed (e_F62 a0 a1 (r1.1)) [T_] [some 0, some 1, some 2, some 3, some 1, some 2, some 4] (pc ((h3 : x12_1 = true)) <| allP_nil) (by kernel_rfl) (by kernel_rfl)
  · rcases of_ifb h with ⟨h4, h⟩ | ⟨h4, h⟩
    · obtain ⟨r2, h5, h⟩ := of_bnd h
      replace h := Option.some.inj h
      subst h
      exact WM.retE mixed (e_F62 a0 a1 (r2)) [F_, R_ [o_, o_, o_], T_, R_ [o_, c_ (mkCall Tryz.call60 (F60_ok h5) [0, 1, 2, 4, 5, 6] (by kernel_rfl) (by kernel_rfl))]] [some 0, some 1, some 2, some 3, some 5, some 6, some 4] (pc ((h3 : x12_1 = false)) <| pc ((h4 : decide (a1 = 91) = true)) <| allP_nil) (by kernel_rfl) (by kernel_rfl)
    · rcases of_ifb h with ⟨h6, h⟩ | ⟨h6, h⟩
      · obtain ⟨r3, h7, h⟩ := of_bnd h
        replace h := Option.some.inj h
        subst h
        exact WM.retE mixed (e_F62 a0 a1 (r3)) [F_, R_ [o_, o_, o_], F_, R_ [o_, o_, o_], T_, R_ [o_, c_ (mkCall Tryz.call60 (F60_ok h7) [0, 1, 2, 4, 5, 6] (by kernel_rfl) (by kernel_rfl))]] [some 0, some 1, some 2, some 3, some 5, some 6, some 4] (pc ((h3 : x12_1 = false)) <| pc ((h4 : decide (a1 = 91) = false)) <| pc ((h6 : decide (a1 = 93) = true)) <| allP_nil) (by kernel_rfl) (by kernel_rfl)
      · rcases of_ifb h with ⟨h8, h⟩ | ⟨h8, h⟩
        · obtain ⟨r4, h9, h⟩ := of_bnd h
          replace h := Option.some.inj h
          subst h
          exact WM.retE mixed (e_F62 a0 a1 (r4)) [F_, R_ [o_, o_, o_], F_, R_ [o_, o_, o_], F_, R_ [o_, o_, o_, o_, o_, o_, o_, o_, o_, o_, o_, o_, o_, o_, o_], T_, R_ [o_, c_ (mkCall Tryz.call60 (F60_ok h9) [0, 1, 2, 4, 5, 6] (by kernel_rfl) (by kernel_rfl))]] [some 0, some 1, some 2, some 3, some 5, some 6, some 4] (pc ((h3 : x12_1 = false)) <| pc ((h4 : decide (a1 = 91) = false)) <| pc ((h6 : decide (a1 = 93) = false)) <| pc ((fun h => h : ((!(decide (a1 = 80))) = true → (!(decide (a1 = 80))) = true))) <| pc ((fun k2 => (not_t k2) : (decide (a1 = 80) = false → (!(decide (a1 = 80))) = true))) <| pc ((fun h => h : ((!(decide (a1 = 80) || decide (a1 = 88))) = true → (!(decide (a1 = 80) || decide (a1 = 88))) = true))) <| pc ((fun k2 => (not_t k2) : ((decide (a1 = 80) || decide (a1 = 88)) = false → (!(decide (a1 = 80) || decide (a1 = 88))) = true))) <| pc ((fun h => h : ((!((decide (a1 = 80) || decide (a1 = 88)) || decide (a1 = 94))) = true → (!((decide (a1 = 80) || decide (a1 = 88)) || decide (a1 = 94))) = true))) <| pc ((fun k2 => (not_t k2) : (((decide (a1 = 80) || decide (a1 = 88)) || decide (a1 = 94)) = false → (!((decide (a1 = 80) || decide (a1 = 88)) || decide (a1 = 94))) = true))) <| pc ((h8 : (((decide (a1 = 80) || decide (a1 = 88)) || decide (a1 = 94)) || decide (a1 = 95)) = true)) <| allP_nil) (by kernel_rfl) (by kernel_rfl)
        · rcases of_ifb h with ⟨h10, h⟩ | ⟨h10, h⟩
          · replace h := Option.some.inj h
            subst h
            exact WM.retE mixed (e_F62 a0 a1 (({ r1.1 with state := 2, inter := a1 } : esc_ParserO))) [F_, R_ [o_, o_, o_], F_, R_ [o_, o_, o_], F_, R_ [o_, o_, o_, o_, o_, o_, o_, o_, o_, o_, o_, o_, o_, o_, o_], F_, R_ [o_, o_, o_], T_, R_ [o_, o_, o_, o_, o_, o_, o_, o_, o_]] [some 0, some 1, some 2, some 3, some 1, some 2, some 4] (pc ((h3 : x12_1 = false)) <| pc ((h4 : decide (a1 = 91) = false)) <| pc ((h6 : decide (a1 = 93) = false)) <| pc ((fun h => h : ((!(decide (a1 = 80))) = true → (!(decide (a1 = 80))) = true))) <| pc ((fun k2 => (not_t k2) : (decide (a1 = 80) = false → (!(decide (a1 = 80))) = true))) <| pc ((fun h => h : ((!(decide (a1 = 80) || decide (a1 = 88))) = true → (!(decide (a1 = 80) || decide (a1 = 88))) = true))) <| pc ((fun k2 => (not_t k2) : ((decide (a1 = 80) || decide (a1 = 88)) = false → (!(decide (a1 = 80) || decide (a1 = 88))) = true))) <| pc ((fun h => h : ((!((decide (a1 = 80) || decide (a1 = 88)) || decide (a1 = 94))) = true → (!((decide (a1 = 80) || decide (a1 = 88)) || decide (a1 = 94))) = true))) <| pc ((fun k2 => (not_t k2) : (((decide (a1 = 80) || decide (a1 = 88)) || decide (a1 = 94)) = false → (!((decide (a1 = 80) || decide (a1 = 88)) || decide (a1 = 94))) = true))) <| pc ((h8 : (((decide (a1 = 80) || decide (a1 = 88)) || decide (a1 = 94)) || decide (a1 = 95)) = false)) <| pc ((h10 : decide (a1 < 48) = true)) <| pc zlt1 <| pc zlt1 <| allP_nil) (by kernel_rfl) (by kernel_rfl)
          · rcases of_ifb h with ⟨h11, h⟩ | ⟨h11, h⟩
            · obtain ⟨r5, h12, h⟩ := of_bnd h
              exact WM.cut mixed [F_, R_ [o_, o_, o_], F_, R_ [o_, o_, o_], F_, R_ [o_, o_, o_, o_, o_, o_, o_, o_, o_, o_, o_, o_, o_, o_, o_], F_, R_ [o_, o_, o_], F_, R_ [o_, o_], T_, R_ [o_, o_, .weak .auto (.agg [.i .i64 3, .i .i32 0, .ro Int 1 (fun n => [.i .i64 n]) 0 [], .i .i32 0, .i .i32 0, .i .i32 a1, .s []]), c_ (mkCall Tryz.call96 (F96_ok h12) [0, 1, 2, 4, 5] (by kernel_rfl) (by kernel_rfl))]] [some 0, some 1, some 2, some 3, some 5] (pc ((h3 : x12_1 = false)) <| pc ((h4 : decide (a1 = 91) = false)) <| pc ((h6 : decide (a1 = 93) = false)) <| pc ((fun h => h : ((!(decide (a1 = 80))) = true → (!(decide (a1 = 80))) = true))) <| pc ((fun k2 => (not_t k2) : (decide (a1 = 80) = false → (!(decide (a1 = 80))) = true))) <| pc ((fun h => h : ((!(decide (a1 = 80) || decide (a1 = 88))) = true → (!(decide (a1 = 80) || decide (a1 = 88))) = true))) <| pc ((fun k2 => (not_t k2) : ((decide (a1 = 80) || decide (a1 = 88)) = false → (!(decide (a1 = 80) || decide (a1 = 88))) = true))) <| pc ((fun h => h : ((!((decide (a1 = 80) || decide (a1 = 88)) || decide (a1 = 94))) = true → (!((decide (a1 = 80) || decide (a1 = 88)) || decide (a1 = 94))) = true))) <| pc ((fun k2 => (not_t k2) : (((decide (a1 = 80) || decide (a1 = 88)) || decide (a1 = 94)) = false → (!((decide (a1 = 80) || decide (a1 = 88)) || decide (a1 = 94))) = true))) <| pc ((h8 : (((decide (a1 = 80) || decide (a1 = 88)) || decide (a1 = 94)) || decide (a1 = 95)) = false)) <| pc ((h10 : decide (a1 < 48) = false)) <| pc ((h11 : decide (a1 < 127) = true)) <| allP_nil) (F62_p2_ok h) (by kernel_rfl)
            · exact WM.cut mixed [F_, R_ [o_, o_, o_], F_, R_ [o_, o_, o_], F_, R_ [o_, o_, o_, o_, o_, o_, o_, o_, o_, o_, o_, o_, o_, o_, o_], F_, R_ [o_, o_, o_], F_, R_ [o_, o_], F_] [some 0, some 1, some 2, some 3, some 4] (pc ((h3 : x12_1 = false)) <| pc ((h4 : decide (a1 = 91) = false)) <| pc ((h6 : decide (a1 = 93) = false)) <| pc ((fun h => h : ((!(decide (a1 = 80))) = true → (!(decide (a1 = 80))) = true))) <| pc ((fun k2 => (not_t k2) : (decide (a1 = 80) = false → (!(decide (a1 = 80))) = true))) <| pc ((fun h => h : ((!(decide (a1 = 80) || decide (a1 = 88))) = true → (!(decide (a1 = 80) || decide (a1 = 88))) = true))) <| pc ((fun k2 => (not_t k2) : ((decide (a1 = 80) || decide (a1 = 88)) = false → (!(decide (a1 = 80) || decide (a1 = 88))) = true))) <| pc ((fun h => h : ((!((decide (a1 = 80) || decide (a1 = 88)) || decide (a1 = 94))) = true → (!((decide (a1 = 80) || decide (a1 = 88)) || decide (a1 = 94))) = true))) <| pc ((fun k2 => (not_t k2) : (((decide (a1 = 80) || decide (a1 = 88)) || decide (a1 = 94)) = false → (!((decide (a1 = 80) || decide (a1 = 88)) || decide (a1 = 94))) = true))) <| pc ((h8 : (((decide (a1 = 80) || decide (a1 = 88)) || decide (a1 = 94)) || decide (a1 = 95)) = false)) <| pc ((h10 : decide (a1 < 48) = false)) <| pc ((h11 : decide (a1 < 127) = false)) <| allP_nil) (F62_p2_ok h) (by kernel_rfl)
set_option maxRecDepth 100000 in
set_option maxHeartbeats 4000000 in
theorem F62_ok {f : Nat} {a0 : esc_ParserO} {a1 : Int} {y : esc_ParserO} (h : F62 f a0 a1 = some y) :
    Spec Tryz.prog G0 62 [.p 0 0 0, .i .i32 a1] [some (B_esc_ParserO 1 2 3 a0), some (intB .i64 a0.params), some (intB .i32 a0.text), some (blk_esc_Event a0.out)] (v_F62 a0 a1 y) (x_F62 a0 a1 y) :=
  Spec.ofM (fn := Tryz.f62) (c := bodyOf Tryz.f62) (n := 55) (rs := Tryz.f62.results.toList) Tryz.func62 (by kernel_rfl) (by kernel_rfl) (by kernel_rfl) (by kernel_rfl) fun cx => by
  unfold F62 at h
  obtain ⟨r1, h1, h⟩ := of_bnd h
  rcases of_ifb h with ⟨h2, h⟩ | ⟨h2, h⟩
  · exact WM.cut mixed [R_ [o_, o_, c_ (mkCall Tryz.call95 (F95_ok h1) [0, 1, 2, 3, 4] (by kernel_rfl) (by kernel_rfl)), o_], T_] [some 0, some 1, some 2, some 3, some 4] (pc ((h2 : r1.2 = true)) <| allP_nil) (F62_p1_ok h) (by kernel_rfl)
  · exact WM.cut mixed [R_ [o_, o_, c_ (mkCall Tryz.call95 (F95_ok h1) [0, 1, 2, 3, 4] (by kernel_rfl) (by kernel_rfl)), o_], F_, R_ [o_, o_, o_]] [some 0, some 1, some 2, some 3, some 4] (pc ((h2 : r1.2 = false)) <| allP_nil) (F62_p1_ok h) (by kernel_rfl)

/-! ### F63: function 63 (*tickertape/esc.Parser).between -/
def F63_p2 (f : Nat) (a0_2 : esc_ParserO) : Option (esc_ParserO) :=
  bnd (F60 f a0_2 0) fun r3 =>
  some (r3)
def F63_p1 (f : Nat) (r1 : esc_ParserO × Bool) (a1 : Int) (x23_1 : Bool) : Option (esc_ParserO) :=
  ifb (x23_1) (
    some (r1.1)) (
    ifb (decide (a1 < 48)) (
      some (({ r1.1 with spoilt := true } : esc_ParserO))) (
      ifb ((decide (a1 < 127) && (!r1.1.spoilt))) (
        bnd (F96 f r1.1 (esc_Event.mk 3 0 [] 0 r1.1.inter a1 [])) fun r2 =>
        F63_p2 f r2) (
        F63_p2 f r1.1)))
def F63 (f : Nat) (a0 : esc_ParserO) (a1 : Int) : Option (esc_ParserO) :=
  bnd (F95 f a0 a1) fun r1 =>
  ifb (r1.2) (
    F63_p1 f r1 a1 r1.2) (
    F63_p1 f r1 a1 (decide (a1 = 127)))
def v_F63 (a0 : esc_ParserO) (a1 : Int) (y : esc_ParserO) : V :=
  .tup []
def e_F63 (a0 : esc_ParserO) (a1 : Int) (y : esc_ParserO) : Env :=
  []
def x_F63 (a0 : esc_ParserO) (a1 : Int) (y : esc_ParserO) : List (Option Blk) :=
  [some (B_esc_ParserO 4 5 6 y), none, none, none, some (intB .i64 y.params), some (intB .i32 y.text), some (blk_esc_Event y.out)]
set_option maxRecDepth 100000 in
set_option maxHeartbeats 4000000 in
theorem F63_p2_ok {cx : Cx} {f : Nat} {a0 : esc_ParserO} {a1 : Int} {a0_2 : esc_ParserO} {y : esc_ParserO} (h : F63_p2 f a0_2 = some y) :
    WM Tryz.prog G0 35 4 Tryz.f63.results.toList (v_F63 a0 a1 y) (x_F63 a0 a1 y) cx (nav [.r, .t, .f, .r, .f, .r, .t, .r, .n] [.code (bodyOf Tryz.f63)]) [(0, ⟨none, .p 0 0 0⟩)] [some (B_esc_ParserO 1 2 4 a0_2), some (intB .i64 a0_2.params), some (intB .i32 a0_2.text), none, some (blk_esc_Event a0_2.out)] := by
  unfold F63_p2 at h
  obtain ⟨r3, h7, h⟩ := of_bnd h
  replace h := Option.some.inj h
  subst h
  exact WM.retE mixed (e_F63 a0 a1 (r3)) [R_ [o_, c_ (mkCall Tryz.call60 (F60_ok h7) [0, 1, 2, 4, 5, 6] (by kernel_rfl) (by kernel_rfl))]] [some 0, some 1, some 2, some 3, some 5, some 6, some 4] (allP_nil) (by kernel_rfl) (by kernel_rfl)
set_option maxRecDepth 100000 in
set_option maxHeartbeats 4000000 in
theorem F63_p1_ok {cx : Cx} {f : Nat} {a0 : esc_ParserO} {a1 : Int} {r1 : esc_ParserO × Bool} {x23_1 : Bool} {y : esc_ParserO} (h : F63_p1 f r1 a1 x23_1 = some y) :
    WM Tryz.prog G0 35 4 Tryz.f63.results.toList (v_F63 a0 a1 y) (x_F63 a0 a1 y) cx (nav [.r, .t, .n] [.code (bodyOf Tryz.f63)]) [(0, ⟨none, .p 0 0 0⟩), (1, ⟨none, .i .i32 a1⟩), (23, ⟨none, .b x23_1⟩)] [some (B_esc_ParserO 1 2 4 r1.1), some (intB .i64 r1.1.params), some (intB .i32 r1.1.text), none, some (blk_esc_Event r1.1.out)] := by
  unfold F63_p1 at h
  rcases of_ifb h with ⟨h3, h⟩ | ⟨h3, h⟩
  · replace h := Option.some.inj h
    subst h
    exact WM.retE mixed (e_F63 a0 a1 (r1.1)) [T_] [some 0, some 1, some 2, some 3, some 1, some 2, some 4] (pc ((h3 : x23_1 = true)) <| allP_nil) (by kernel_rfl) (by kernel_rfl)
  · rcases of_ifb h with ⟨h4, h⟩ | ⟨h4, h⟩
    · replace h := Option.some.inj h
      subst h
      exact WM.retE mixed (e_F63 a0 a1 (({ r1.1 with spoilt := true } : esc_ParserO))) [F_, R_ [o_, o_, o_], T_, R_ [o_, o_, o_, o_]] [some 0, some 1, some 2, some 3, some 1, some 2, some 4] (pc ((h3 : x23_1 = false)) <| pc ((h4 : decide (a1 < 48) = true)) <| pc zlt1 <| allP_nil) (by kernel_rfl) (by kernel_rfl)
    · rcases of_ifb h with ⟨h5, h⟩ | ⟨h5, h⟩
      · obtain ⟨r2, h6, h⟩ := of_bnd h
        exact WM.cut mixed [F_, R_ [o_, o_, o_], F_, R_ [o_, o_, o_, o_, o_, o_, o_, o_, o_], T_, R_ [o_, o_, o_, o_, o_, o_, .weak .auto (.agg [.i .i64 3, .i .i32 0, .ro Int 1 (fun n => [.i .i64 n]) 0 [], .i .i32 0, .i .i32 r1.1.inter, .i .i32 a1, .s []]), c_ (mkCall Tryz.call96 (F96_ok h6) [0, 1, 2, 4, 5] (by kernel_rfl) (by kernel_rfl))]] [some 0, some 1, some 2, some 3, some 5] (pc ((h3 : x23_1 = false)) <| pc ((h4 : decide (a1 < 48) = false)) <| pc ((fun h => h : (decide (a1 < 127) = true → decide (a1 < 127) = true))) <| pc ((fun h => h : (decide (a1 < 127) = true → decide (a1 < 127) = true))) <| pc ((fun h => h : (decide (a1 < 127) = true → decide (a1 < 127) = true))) <| pc ((fun _ => zlt1 : (decide (a1 < 127) = true → 0 < 1))) <| pc ((fun h => h : (decide (a1 < 127) = true → decide (a1 < 127) = true))) <| pc ((fun k2 => k2 : (decide (a1 < 127) = true → decide (a1 < 127) = true))) <| pc ((h5 : (decide (a1 < 127) && (!r1.1.spoilt)) = true)) <| pc zlt1 <| allP_nil) (F63_p2_ok h) (by kernel_rfl)
      · exact WM.cut mixed [F_, R_ [o_, o_, o_], F_, R_ [o_, o_, o_, o_, o_, o_, o_, o_, o_], F_] [some 0, some 1, some 2, some 3, some 4] (pc ((h3 : x23_1 = false)) <| pc ((h4 : decide (a1 < 48) = false)) <| pc ((fun h => h : (decide (a1 < 127) = true → decide (a1 < 127) = true))) <| pc ((fun h => h : (decide (a1 < 127) = true → decide (a1 < 127) = true))) <| pc ((fun h => h : (decide (a1 < 127) = true → decide (a1 < 127) = true))) <| pc ((fun _ => zlt1 : (decide (a1 < 127) = true → 0 < 1))) <| pc ((fun h => h : (decide (a1 < 127) = true → decide (a1 < 127) = true))) <| pc ((fun k2 => k2 : (decide (a1 < 127) = true → decide (a1 < 127) = true))) <| pc ((h5 : (decide (a1 < 127) && (!r1.1.spoilt)) = false)) <| allP_nil) (F63_p2_ok h) (by kernel_rfl)
set_option maxRecDepth 100000 in
set_option maxHeartbeats 4000000 in
theorem F63_ok {f : Nat} {a0 : esc_ParserO} {a1 : Int} {y : esc_ParserO} (h : F63 f a0 a1 = some y) :
    Spec Tryz.prog G0 63 [.p 0 0 0, .i .i32 a1] [some (B_esc_ParserO 1 2 3 a0), some (intB .i64 a0.params), some (intB .i32 a0.text), some (blk_esc_Event a0.out)] (v_F63 a0 a1 y) (x_F63 a0 a1 y) :=
  Spec.ofM (fn := Tryz.f63) (c := bodyOf Tryz.f63) (n := 35) (rs := Tryz.f63.results.toList) Tryz.func63 (by kernel_rfl) (by kernel_rfl) (by kernel_rfl) (by kernel_rfl) fun cx => by
  unfold F63 at h
  obtain ⟨r1, h1, h⟩ := of_bnd h
  rcases of_ifb h with ⟨h2, h⟩ | ⟨h2, h⟩
  · exact WM.cut mixed [R_ [o_, o_, c_ (mkCall Tryz.call95 (F95_ok h1) [0, 1, 2, 3, 4] (by kernel_rfl) (by kernel_rfl)), o_], T_] [some 0, some 1, some 2, some 3, some 4] (pc ((h2 : r1.2 = true)) <| allP_nil) (F63_p1_ok h) (by kernel_rfl)
  · exact WM.cut mixed [R_ [o_, o_, c_ (mkCall Tryz.call95 (F95_ok h1) [0, 1, 2, 3, 4] (by kernel_rfl) (by kernel_rfl)), o_], F_, R_ [o_, o_, o_]] [some 0, some 1, some 2, some 3, some 4] (pc ((h2 : r1.2 = false)) <| allP_nil) (F63_p1_ok h) (by kernel_rfl)

/-! ### F127: function 127 (*tickertape/esc.Parser).digit -/
def F127 (f : Nat) (a0 : esc_ParserO) (a1 : Int) : Option (esc_ParserO) :=
  chk (inR (((a0.params_n : Nat) : Int) - 1)) <|
  chk (0 ≤ (((a0.params_n : Nat) : Int) - 1)) <|
  chk ((((a0.params_n : Nat) : Int) - 1) < ((a0.params_n : Nat) : Int)) <|
  chk ((0 + ((((a0.params_n : Nat) : Int) - 1)).toNat) < a0.params.length) <|
  chk (inR ((wr ((imax (a0.params.getD (0 + ((((a0.params_n : Nat) : Int) - 1)).toNat) 0) 0) * 10)) + a1)) <|
  some (({ a0 with params := (a0.params.set (0 + ((((a0.params_n : Nat) : Int) - 1)).toNat) (imin ((wr ((imax (a0.params.getD (0 + ((((a0.params_n : Nat) : Int) - 1)).toNat) 0) 0) * 10)) + a1) 9999)), told := true } : esc_ParserO))
def v_F127 (a0 : esc_ParserO) (a1 : Int) (y : esc_ParserO) : V :=
  .tup []
def e_F127 (a0 : esc_ParserO) (a1 : Int) (y : esc_ParserO) : Env :=
  []
def x_F127 (a0 : esc_ParserO) (a1 : Int) (y : esc_ParserO) : List (Option Blk) :=
  [some (B_esc_ParserO 1 2 3 y), some (intB .i64 y.params), some (intB .i32 y.text), some (blk_esc_Event y.out)]
set_option maxRecDepth 100000 in
set_option maxHeartbeats 4000000 in
theorem F127_ok {f : Nat} {a0 : esc_ParserO} {a1 : Int} {y : esc_ParserO} (h : F127 f a0 a1 = some y) :
    Spec Tryz.prog G0 127 [.p 0 0 0, .i .i64 a1] [some (B_esc_ParserO 1 2 3 a0), some (intB .i64 a0.params), some (intB .i32 a0.text), some (blk_esc_Event a0.out)] (v_F127 a0 a1 y) (x_F127 a0 a1 y) :=
  Spec.ofM (fn := Tryz.f127) (c := bodyOf Tryz.f127) (n := 32) (rs := Tryz.f127.results.toList) Tryz.func127 (by kernel_rfl) (by kernel_rfl) (by kernel_rfl) (by kernel_rfl) fun cx => by
  unfold F127 at h
  obtain ⟨h1, h⟩ := of_chk h
  obtain ⟨h2, h⟩ := of_chk h
  obtain ⟨h3, h⟩ := of_chk h
  obtain ⟨h4, h⟩ := of_chk h
  obtain ⟨h5, h⟩ := of_chk h
  replace h := Option.some.inj h
  subst h
  exact WM.retE mixed (e_F127 a0 a1 (({ a0 with params := (a0.params.set (0 + ((((a0.params_n : Nat) : Int) - 1)).toNat) (imin ((wr ((imax (a0.params.getD (0 + ((((a0.params_n : Nat) : Int) - 1)).toNat) 0) 0) * 10)) + a1) 9999)), told := true } : esc_ParserO))) [R_ [o_, o_, o_, o_, o_, o_, o_], R_ [o_, o_, o_, o_, o_, o_, o_, o_, o_, o_, o_, o_, o_, o_, o_, o_, o_, o_, o_], R_ [o_, o_, o_, o_]] [some 0, some 1, some 2, some 3] (pc zlt1 <| pc h1 <| pc zlt1 <| pc zlt1 <| pc h2 <| pc h3 <| pc h4 <| pc h5 <| pc h2 <| pc h3 <| pc h4 <| pc zlt1 <| allP_nil) (by kernel_rfl) (by kernel_rfl)

/-! ### F97: function 97 (*tickertape/esc.Parser).part -/
def F97 (f : Nat) (a0 : esc_ParserO) (a1 : Int) : Option (esc_ParserO) :=
  ifb (decide (a1 ≥ 60)) (
    some (({ a0 with private_ := a1, spoilt := (((a0.spoilt || a0.told) || decide (a0.inter > 0)) || decide (a0.private_ > 0)) } : esc_ParserO))) (
    ifb (decide (a0.inter > 0)) (
      some (({ a0 with spoilt := true } : esc_ParserO))) (
      ifb (decide (a1 ≤ 57)) (
        chk (inR (IntKind.wrap .i32 (a1 - 48))) <|
        bnd (F127 f a0 (IntKind.wrap .i32 (a1 - 48))) fun r1 =>
        some (r1)) (
        chk (a0.params_n = a0.params.length) <|
        chk (((((a0.params_n + 1)) * 8 : Nat) : Int) ≤ 140737488355328) <|
        some (({ a0 with params_n := (a0.params_n + 1), params := (a0.params ++ [(-1)]), told := true } : esc_ParserO)))))
def v_F97 (a0 : esc_ParserO) (a1 : Int) (y : esc_ParserO) : V :=
  .tup []
def e_F97 (a0 : esc_ParserO) (a1 : Int) (y : esc_ParserO) : Env :=
  []
def x_F97 (a0 : esc_ParserO) (a1 : Int) (y : esc_ParserO) : List (Option Blk) :=
  [some (B_esc_ParserO 4 2 3 y), none, some (intB .i32 y.text), some (blk_esc_Event y.out), some (intB .i64 y.params)]
set_option maxRecDepth 100000 in
set_option maxHeartbeats 4000000 in
theorem F97_ok {f : Nat} {a0 : esc_ParserO} {a1 : Int} {y : esc_ParserO} (h : F97 f a0 a1 = some y) :
    Spec Tryz.prog G0 97 [.p 0 0 0, .i .i32 a1] [some (B_esc_ParserO 1 2 3 a0), some (intB .i64 a0.params), some (intB .i32 a0.text), some (blk_esc_Event a0.out)] (v_F97 a0 a1 y) (x_F97 a0 a1 y) :=
  Spec.ofM (fn := Tryz.f97) (c := bodyOf Tryz.f97) (n := 67) (rs := Tryz.f97.results.toList) Tryz.func97 (by kernel_rfl) (by kernel_rfl) (by kernel_rfl) (by kernel_rfl) fun cx => by
  unfold F97 at h
  rcases of_ifb h with ⟨h1, h⟩ | ⟨h1, h⟩
  · replace h := Option.some.inj h
    subst h
    exact WM.retE mixed (e_F97 a0 a1 (({ a0 with private_ := a1, spoilt := (((a0.spoilt || a0.told) || decide (a0.inter > 0)) || decide (a0.private_ > 0)) } : esc_ParserO))) [R_ [o_, o_, o_], T_, R_ [o_, o_, o_, o_, o_, o_, o_, o_, o_, o_, o_, o_, o_, o_, o_, o_, o_, o_, o_, o_, o_, o_, o_, o_, o_, o_, o_, o_], R_ [o_, o_, o_, o_, o_]] [some 0, some 1, some 2, some 3, some 1] (pc ((h1 : decide (a1 ≥ 60) = true)) <| pc zlt1 <| pc ((fun h => h : ((!a0.spoilt) = true → (!a0.spoilt) = true))) <| pc ((fun h => h : ((!a0.spoilt) = true → (!a0.spoilt) = true))) <| pc ((fun h => h : ((!a0.spoilt) = true → (!a0.spoilt) = true))) <| pc ((fun _ => zlt1 : ((!a0.spoilt) = true → 0 < 1))) <| pc ((fun k2 => (not_t k2) : (a0.spoilt = false → (!a0.spoilt) = true))) <| pc ((fun h => h : ((!(a0.spoilt || a0.told)) = true → (!(a0.spoilt || a0.told)) = true))) <| pc ((fun h => h : ((!(a0.spoilt || a0.told)) = true → (!(a0.spoilt || a0.told)) = true))) <| pc ((fun h => h : ((!(a0.spoilt || a0.told)) = true → (!(a0.spoilt || a0.told)) = true))) <| pc ((fun _ => zlt1 : ((!(a0.spoilt || a0.told)) = true → 0 < 1))) <| pc ((fun h => h : ((!(a0.spoilt || a0.told)) = true → (!(a0.spoilt || a0.told)) = true))) <| pc ((fun k2 => (not_t k2) : ((a0.spoilt || a0.told) = false → (!(a0.spoilt || a0.told)) = true))) <| pc ((fun h => h : ((!((a0.spoilt || a0.told) || decide (a0.inter > 0))) = true → (!((a0.spoilt || a0.told) || decide (a0.inter > 0))) = true))) <| pc ((fun h => h : ((!((a0.spoilt || a0.told) || decide (a0.inter > 0))) = true → (!((a0.spoilt || a0.told) || decide (a0.inter > 0))) = true))) <| pc ((fun h => h : ((!((a0.spoilt || a0.told) || decide (a0.inter > 0))) = true → (!((a0.spoilt || a0.told) || decide (a0.inter > 0))) = true))) <| pc ((fun _ => zlt1 : ((!((a0.spoilt || a0.told) || decide (a0.inter > 0))) = true → 0 < 1))) <| pc ((fun h => h : ((!((a0.spoilt || a0.told) || decide (a0.inter > 0))) = true → (!((a0.spoilt || a0.told) || decide (a0.inter > 0))) = true))) <| pc ((fun k2 => (not_t k2) : (((a0.spoilt || a0.told) || decide (a0.inter > 0)) = false → (!((a0.spoilt || a0.told) || decide (a0.inter > 0))) = true))) <| pc zlt1 <| pc zlt1 <| allP_nil) (by kernel_rfl) (by kernel_rfl)
  · rcases of_ifb h with ⟨h2, h⟩ | ⟨h2, h⟩
    · replace h := Option.some.inj h
      subst h
      exact WM.retE mixed (e_F97 a0 a1 (({ a0 with spoilt := true } : esc_ParserO))) [R_ [o_, o_, o_], F_, R_ [o_, o_, o_, o_, o_, o_], T_, R_ [o_, o_, o_, o_]] [some 0, some 1, some 2, some 3, some 1] (pc ((h1 : decide (a1 ≥ 60) = false)) <| pc zlt1 <| pc ((h2 : decide (a0.inter > 0) = true)) <| pc zlt1 <| allP_nil) (by kernel_rfl) (by kernel_rfl)
    · rcases of_ifb h with ⟨h3, h⟩ | ⟨h3, h⟩
      · obtain ⟨h4, h⟩ := of_chk h
        obtain ⟨r1, h5, h⟩ := of_bnd h
        replace h := Option.some.inj h
        subst h
        exact WM.retE mixed (e_F97 a0 a1 (r1)) [R_ [o_, o_, o_], F_, R_ [o_, o_, o_, o_, o_, o_], F_, R_ [o_, o_, o_], T_, R_ [o_, o_, o_, o_, c_ (mkCall Tryz.call127 (F127_ok h5) [0, 1, 2, 3] (by kernel_rfl) (by kernel_rfl))]] [some 0, some 1, some 2, some 3, some 1] (pc ((h1 : decide (a1 ≥ 60) = false)) <| pc zlt1 <| pc ((h2 : decide (a0.inter > 0) = false)) <| pc ((h3 : decide (a1 ≤ 57) = true)) <| pc h4 <| allP_nil) (by kernel_rfl) (by kernel_rfl)
      · obtain ⟨h6, h⟩ := of_chk h
        obtain ⟨h7, h⟩ := of_chk h
        replace h := Option.some.inj h
        subst h
        exact WM.retE mixed (e_F97 a0 a1 (({ a0 with params_n := (a0.params_n + 1), params := (a0.params ++ [(-1)]), told := true } : esc_ParserO))) [R_ [o_, o_, o_], F_, R_ [o_, o_, o_, o_, o_, o_], F_, R_ [o_, o_, o_], F_, R_ [o_, o_, o_, o_, o_, o_, .op (.fresh 4 (intB .i64 [(-1)])), .op (.fresh 5 (intB .u8 [])), o_, o_, o_, o_, o_, o_]] [some 0, some 1, some 2, some 3, some 5] (pc ((h1 : decide (a1 ≥ 60) = false)) <| pc zlt1 <| pc ((h2 : decide (a0.inter > 0) = false)) <| pc ((h3 : decide (a1 ≤ 57) = false)) <| pc zlt1 <| pc h6 <| pc h7 <| pc ((by decide : 1 ≤ 1)) <| pc zlt1 <| pc zlt1 <| allP_nil) (by kernel_rfl) (by kernel_rfl)

/-! ### F98: function 98 (*tickertape/esc.Parser).csi -/
def F98 (f : Nat) (a0 : esc_ParserO) (a1 : Int) : Option (esc_ParserO_1 × esc_Event) :=
  ifb (a0.told) (
    chk (0 ≤ (imin ((a0.params_n : Nat) : Int) 16)) <|
    chk ((imin ((a0.params_n : Nat) : Int) 16) ≤ ((a0.params_n : Nat) : Int)) <|
    chk ((0 + (((imin ((a0.params_n : Nat) : Int) 16)).toNat - 0)) ≤ a0.params.length) <|
    some (((esc_ParserO_1.mk a0.state a0.told a0.private_ a0.inter a0.spoilt a0.text_n a0.text a0.out_n a0.out), (esc_Event.mk 4 0 ((a0.params.drop 0).take (((imin ((a0.params_n : Nat) : Int) 16)).toNat - 0)) a0.private_ a0.inter a1 [])))) (
    some (((esc_ParserO_1.mk a0.state a0.told a0.private_ a0.inter a0.spoilt a0.text_n a0.text a0.out_n a0.out), (esc_Event.mk 4 0 [] a0.private_ a0.inter a1 []))))
def v_F98 (a0 : esc_ParserO) (a1 : Int) (y : esc_ParserO_1 × esc_Event) : V :=
  .agg [.i .i64 y.2.Kind, .i .i32 y.2.Rune, .ro Int 1 (fun n => [.i .i64 n]) 0 y.2.Params, .i .i32 y.2.Private, .i .i32 y.2.Inter, .i .i32 y.2.Final, .s y.2.Text]
def e_F98 (a0 : esc_ParserO) (a1 : Int) (y : esc_ParserO_1 × esc_Event) : Env :=
  [(4, ⟨none, .p 4 0 0⟩)]
def x_F98 (a0 : esc_ParserO) (a1 : Int) (y : esc_ParserO_1 × esc_Event) : List (Option Blk) :=
  [some (B_esc_ParserO_1 2 3 y.1), none, some (intB .i32 y.1.text), some (blk_esc_Event y.1.out), some (blk_esc_Event [(esc_Event.mk y.2.Kind y.2.Rune y.2.Params y.2.Private y.2.Inter y.2.Final y.2.Text)])]
set_option maxRecDepth 100000 in
set_option maxHeartbeats 4000000 in
theorem F98_ok {f : Nat} {a0 : esc_ParserO} {a1 : Int} {y : esc_ParserO_1 × esc_Event} (h : F98 f a0 a1 = some y) :
    Spec Tryz.prog G0 98 [.p 0 0 0, .i .i32 a1] [some (B_esc_ParserO 1 2 3 a0), some (intB .i64 a0.params), some (intB .i32 a0.text), some (blk_esc_Event a0.out)] (v_F98 a0 a1 y) (x_F98 a0 a1 y) :=
  Spec.ofM (fn := Tryz.f98) (c := bodyOf Tryz.f98) (n := 33) (rs := Tryz.f98.results.toList) Tryz.func98 (by kernel_rfl) (by kernel_rfl) (by kernel_rfl) (by kernel_rfl) fun cx => by
  unfold F98 at h
  rcases of_ifb h with ⟨h1, h⟩ | ⟨h1, h⟩
  · obtain ⟨h2, h⟩ := of_chk h
    obtain ⟨h3, h⟩ := of_chk h
    obtain ⟨h4, h⟩ := of_chk h
    replace h := Option.some.inj h
    subst h
    exact WM.retE mixed (e_F98 a0 a1 (((esc_ParserO_1.mk a0.state a0.told a0.private_ a0.inter a0.spoilt a0.text_n a0.text a0.out_n a0.out), (esc_Event.mk 4 0 ((a0.params.drop 0).take (((imin ((a0.params_n : Nat) : Int) 16)).toNat - 0)) a0.private_ a0.inter a1 [])))) [R_ [.op (.fresh 4 (svB 7 [.i .i64 0, .i .i32 0, .nils, .i .i32 0, .i .i32 0, .i .i32 0, .s []]))], R_ [o_, o_, o_, o_, o_, o_, o_, o_, o_, .weak .auto (.agg [.i .i64 4, .i .i32 0, .ro Int 1 (fun n => [.i .i64 n]) 0 [], .i .i32 a0.private_, .i .i32 a0.inter, .i .i32 a1, .s []]), .op (.fresh 5 (svB 7 [.i .i64 0, .i .i32 0, .nils, .i .i32 0, .i .i32 0, .i .i32 0, .s []])), .re 5 ((⟨esc_Event, 7, enc_esc_Event, (fun _ => (esc_Event.mk 4 0 [] a0.private_ a0.inter a1 [])), zero_esc_Event, [(esc_Event.mk 0 0 [] 0 0 0 [])]⟩ : Blk)) true .auto], R_ [o_, o_, o_, o_], T_, R_ [o_, o_, o_, o_, o_, o_, o_, o_, o_, o_, .frz .auto 1, o_, .re 5 ((⟨esc_Event, 7, enc_esc_Event, (fun _ => (esc_Event.mk 4 0 ((a0.params.drop 0).take (((imin ((a0.params_n : Nat) : Int) 16)).toNat - 0)) a0.private_ a0.inter a1 [])), zero_esc_Event, [(esc_Event.mk 4 0 [] a0.private_ a0.inter a1 [])]⟩ : Blk)) false .auto], R_ [o_, .re 4 ((⟨esc_Event, 7, enc_esc_Event, (fun _ => (esc_Event.mk 4 0 ((a0.params.drop 0).take (((imin ((a0.params_n : Nat) : Int) 16)).toNat - 0)) a0.private_ a0.inter a1 [])), zero_esc_Event, [(esc_Event.mk 0 0 [] 0 0 0 [])]⟩ : Blk)) true .auto], .weak 0 (svB 8 [.i .i64 a0.state, .u, .b a0.told, .i .i32 a0.private_, .i .i32 a0.inter, .b a0.spoilt, .sl 2 0 a0.text_n, .sl 3 0 a0.out_n])] [some 0, some 1, some 2, some 3, some 4] (pc zlt1 <| pc zlt1 <| pc zlt1 <| pc zlt1 <| pc ((h1 : a0.told = true)) <| pc zlt1 <| pc zlt1 <| pc h2 <| pc h3 <| pc h4 <| pc zlt1 <| pc zlt1 <| pc zlt1 <| allP_nil) (by kernel_rfl) (by kernel_rfl)
  · replace h := Option.some.inj h
    subst h
    exact WM.retE mixed (e_F98 a0 a1 (((esc_ParserO_1.mk a0.state a0.told a0.private_ a0.inter a0.spoilt a0.text_n a0.text a0.out_n a0.out), (esc_Event.mk 4 0 [] a0.private_ a0.inter a1 [])))) [R_ [.op (.fresh 4 (svB 7 [.i .i64 0, .i .i32 0, .nils, .i .i32 0, .i .i32 0, .i .i32 0, .s []]))], R_ [o_, o_, o_, o_, o_, o_, o_, o_, o_, .weak .auto (.agg [.i .i64 4, .i .i32 0, .ro Int 1 (fun n => [.i .i64 n]) 0 [], .i .i32 a0.private_, .i .i32 a0.inter, .i .i32 a1, .s []]), .op (.fresh 5 (svB 7 [.i .i64 0, .i .i32 0, .nils, .i .i32 0, .i .i32 0, .i .i32 0, .s []])), .re 5 ((⟨esc_Event, 7, enc_esc_Event, (fun _ => (esc_Event.mk 4 0 [] a0.private_ a0.inter a1 [])), zero_esc_Event, [(esc_Event.mk 0 0 [] 0 0 0 [])]⟩ : Blk)) true .auto], R_ [o_, o_, o_, o_], F_, R_ [o_, .re 4 ((⟨esc_Event, 7, enc_esc_Event, (fun _ => (esc_Event.mk 4 0 [] a0.private_ a0.inter a1 [])), zero_esc_Event, [(esc_Event.mk 0 0 [] 0 0 0 [])]⟩ : Blk)) true .auto], .weak 0 (svB 8 [.i .i64 a0.state, .u, .b a0.told, .i .i32 a0.private_, .i .i32 a0.inter, .b a0.spoilt, .sl 2 0 a0.text_n, .sl 3 0 a0.out_n])] [some 0, some 1, some 2, some 3, some 4] (pc zlt1 <| pc zlt1 <| pc zlt1 <| pc zlt1 <| pc ((h1 : a0.told = false)) <| pc zlt1 <| pc zlt1 <| allP_nil) (by kernel_rfl) (by kernel_rfl)

/-! ### F96_1: function 96 (*tickertape/esc.Parser).tells -/
def F96_1 (f : Nat) (a0 : esc_ParserO_1) (a1 : esc_Event) : Option (esc_ParserO_1) :=
  chk (a0.out_n = a0.out.length) <|
  chk (((((a0.out_n + 1)) * 72 : Nat) : Int) ≤ 140737488355328) <|
  some (({ a0 with out_n := (a0.out_n + 1), out := (a0.out ++ [a1]) } : esc_ParserO_1))
def v_F96_1 (a0 : esc_ParserO_1) (a1 : esc_Event) (y : esc_ParserO_1) : V :=
  .tup []
def e_F96_1 (a0 : esc_ParserO_1) (a1 : esc_Event) (y : esc_ParserO_1) : Env :=
  []
def x_F96_1 (a0 : esc_ParserO_1) (a1 : esc_Event) (y : esc_ParserO_1) : List (Option Blk) :=
  [some (B_esc_ParserO_1 1 3 y), some (intB .i32 y.text), none, some (blk_esc_Event y.out)]
set_option maxRecDepth 100000 in
set_option maxHeartbeats 4000000 in
theorem F96_1_ok {f : Nat} {a0 : esc_ParserO_1} {a1 : esc_Event} {y : esc_ParserO_1} (h : F96_1 f a0 a1 = some y) :
    Spec Tryz.prog G0 96 [.p 0 0 0, .agg [.i .i64 a1.Kind, .i .i32 a1.Rune, .ro Int 1 (fun n => [.i .i64 n]) 0 a1.Params, .i .i32 a1.Private, .i .i32 a1.Inter, .i .i32 a1.Final, .s a1.Text]] [some (B_esc_ParserO_1 1 2 a0), some (intB .i32 a0.text), some (blk_esc_Event a0.out)] (v_F96_1 a0 a1 y) (x_F96_1 a0 a1 y) :=
  Spec.ofM (fn := Tryz.f96) (c := bodyOf Tryz.f96) (n := 14) (rs := Tryz.f96.results.toList) Tryz.func96 (by kernel_rfl) (by kernel_rfl) (by kernel_rfl) (by kernel_rfl) fun cx => by
  unfold F96_1 at h
  obtain ⟨h1, h⟩ := of_chk h
  obtain ⟨h2, h⟩ := of_chk h
  replace h := Option.some.inj h
  subst h
  exact WM.retE mixed (e_F96_1 a0 a1 (({ a0 with out_n := (a0.out_n + 1), out := (a0.out ++ [a1]) } : esc_ParserO_1))) [R_ [.op (.fresh 3 ((⟨esc_Event, 7, enc_esc_Event, (fun _ => a1), zero_esc_Event, [a1]⟩ : Blk)))], R_ [o_, o_, o_, o_, o_, o_, .op (.fresh 4 ((⟨esc_Event, 7, enc_esc_Event, (fun _ => a1), zero_esc_Event, [a1]⟩ : Blk))), .re 2 ((⟨esc_Event, 7, enc_esc_Event, (fun _ => a1), zero_esc_Event, a0.out⟩ : Blk)) false (.fresh 5 (intB .u8 [])), o_, o_, o_]] [some 0, some 1, some 2, some 5] (pc zlt1 <| pc zlt1 <| pc h1 <| pc h2 <| pc ((by decide : 1 ≤ 1)) <| pc zlt1 <| allP_nil) (by kernel_rfl) (by kernel_rfl)

/-! ### F60_1: function 60 (*tickertape/esc.Parser).goes -/
def F60_1 (f : Nat) (a0 : esc_ParserO_1) (a1 : Int) : Option (esc_ParserO) :=
  some ((esc_ParserO.mk a1 1 [(-1)] false 0 0 false 0 [] a0.out_n a0.out))
def v_F60_1 (a0 : esc_ParserO_1) (a1 : Int) (y : esc_ParserO) : V :=
  .tup []
def e_F60_1 (a0 : esc_ParserO_1) (a1 : Int) (y : esc_ParserO) : Env :=
  []
def x_F60_1 (a0 : esc_ParserO_1) (a1 : Int) (y : esc_ParserO) : List (Option Blk) :=
  [some (B_esc_ParserO 3 4 2 y), none, some (blk_esc_Event y.out), some (intB .i64 y.params), some (intB .i32 y.text)]
set_option maxRecDepth 100000 in
set_option maxHeartbeats 4000000 in
theorem F60_1_ok {f : Nat} {a0 : esc_ParserO_1} {a1 : Int} {y : esc_ParserO} (h : F60_1 f a0 a1 = some y) :
    Spec Tryz.prog G0 60 [.p 0 0 0, .i .i64 a1] [some (B_esc_ParserO_1 1 2 a0), some (intB .i32 a0.text), some (blk_esc_Event a0.out)] (v_F60_1 a0 a1 y) (x_F60_1 a0 a1 y) :=
  Spec.ofM (fn := Tryz.f60) (c := bodyOf Tryz.f60) (n := 27) (rs := Tryz.f60.results.toList) Tryz.func60 (by kernel_rfl) (by kernel_rfl) (by kernel_rfl) (by kernel_rfl) fun cx => by
  unfold F60_1 at h
  replace h := Option.some.inj h
  subst h
  exact WM.retE mixed (e_F60_1 a0 a1 ((esc_ParserO.mk a1 1 [(-1)] false 0 0 false 0 [] a0.out_n a0.out))) [R_ [o_, o_, o_, o_, o_, o_, o_, o_, .op (.fresh 3 (intB .i64 [(-1)])), o_, o_, o_, o_, o_, o_, o_, o_, o_, o_, o_, o_, o_, o_, o_, o_, o_, o_, o_, o_, o_]] [some 0, some 1, some 2, some 3, none] (pc zlt1 <| pc zlt1 <| pc zlt1 <| pc zlt1 <| pc zlt1 <| pc zlt1 <| pc zlt1 <| allP_nil) (by kernel_rfl) (by kernel_rfl)

/-! ### F64: function 64 (*tickertape/esc.Parser).control -/
def F64_p2 (f : Nat) (a0_2 : esc_ParserO_1) : Option (esc_ParserO) :=
  bnd (F60_1 f a0_2 0) fun r5 =>
  some (r5)
def F64_p1 (f : Nat) (r1 : esc_ParserO × Bool) (a1 : Int) (x20_1 : Bool) : Option (esc_ParserO) :=
  ifb (x20_1) (
    some (r1.1)) (
    ifb (decide (a1 < 48)) (
      some (({ r1.1 with inter := a1, spoilt := (r1.1.spoilt || decide (r1.1.inter > 0)) } : esc_ParserO))) (
      ifb (decide (a1 < 64)) (
        bnd (F97 f r1.1 a1) fun r2 =>
        some (r2)) (
        ifb ((decide (a1 < 127) && (!r1.1.spoilt))) (
          bnd (F98 f r1.1 a1) fun r3 =>
          bnd (F96_1 f r3.1 r3.2) fun r4 =>
          F64_p2 f r4) (
          F64_p2 f (esc_ParserO_1.mk r1.1.state r1.1.told r1.1.private_ r1.1.inter r1.1.spoilt r1.1.text_n r1.1.text r1.1.out_n r1.1.out)))))
def F64 (f : Nat) (a0 : esc_ParserO) (a1 : Int) : Option (esc_ParserO) :=
  bnd (F95 f a0 a1) fun r1 =>
  ifb (r1.2) (
    F64_p1 f r1 a1 r1.2) (
    F64_p1 f r1 a1 (decide (a1 = 127)))
def v_F64 (a0 : esc_ParserO) (a1 : Int) (y : esc_ParserO) : V :=
  .tup []
def e_F64 (a0 : esc_ParserO) (a1 : Int) (y : esc_ParserO) : Env :=
  []
def x_F64 (a0 : esc_ParserO) (a1 : Int) (y : esc_ParserO) : List (Option Blk) :=
  [some (B_esc_ParserO 4 5 6 y), none, none, none, some (intB .i64 y.params), some (intB .i32 y.text), some (blk_esc_Event y.out)]
set_option maxRecDepth 100000 in
set_option maxHeartbeats 4000000 in
theorem F64_p2_ok {cx : Cx} {f : Nat} {a0 : esc_ParserO} {a1 : Int} {a0_2 : esc_ParserO_1} {y : esc_ParserO} (h : F64_p2 f a0_2 = some y) :
    WM Tryz.prog G0 53 4 Tryz.f64.results.toList (v_F64 a0 a1 y) (x_F64 a0 a1 y) cx (nav [.r, .t, .f, .r, .f, .r, .f, .r, .t, .r, .n] [.code (bodyOf Tryz.f64)]) [(0, ⟨none, .p 0 0 0⟩)] [some (B_esc_ParserO_1 2 4 a0_2), none, some (intB .i32 a0_2.text), none, some (blk_esc_Event a0_2.out)] := by
  unfold F64_p2 at h
  obtain ⟨r5, h10, h⟩ := of_bnd h
  replace h := Option.some.inj h
  subst h
  exact WM.retE mixed (e_F64 a0 a1 (r5)) [R_ [o_, c_ (mkCall Tryz.call60 (F60_1_ok h10) [0, 2, 4, 5, 6] (by kernel_rfl) (by kernel_rfl))]] [some 0, some 1, some 2, some 3, some 5, some 6, some 4] (allP_nil) (by kernel_rfl) (by kernel_rfl)
set_option maxRecDepth 100000 in
set_option maxHeartbeats 4000000 in
theorem F64_p1_ok {cx : Cx} {f : Nat} {a0 : esc_ParserO} {a1 : Int} {r1 : esc_ParserO × Bool} {x20_1 : Bool} {y : esc_ParserO} (h : F64_p1 f r1 a1 x20_1 = some y) :
    WM Tryz.prog G0 53 4 Tryz.f64.results.toList (v_F64 a0 a1 y) (x_F64 a0 a1 y) cx (nav [.r, .t, .n] [.code (bodyOf Tryz.f64)]) [(0, ⟨none, .p 0 0 0⟩), (1, ⟨none, .i .i32 a1⟩), (20, ⟨none, .b x20_1⟩)] [some (B_esc_ParserO 1 2 4 r1.1), some (intB .i64 r1.1.params), some (intB .i32 r1.1.text), none, some (blk_esc_Event r1.1.out)] := by
  unfold F64_p1 at h
  rcases of_ifb h with ⟨h3, h⟩ | ⟨h3, h⟩
  · replace h := Option.some.inj h
    subst h
    exact WM.retE mixed (e_F64 a0 a1 (r1.1)) [T_] [some 0, some 1, some 2, some 3, some 1, some 2, some 4] (pc ((h3 : x20_1 = true)) <| allP_nil) (by kernel_rfl) (by kernel_rfl)
  · rcases of_ifb h with ⟨h4, h⟩ | ⟨h4, h⟩
    · replace h := Option.some.inj h
      subst h
      exact WM.retE mixed (e_F64 a0 a1 (({ r1.1 with inter := a1, spoilt := (r1.1.spoilt || decide (r1.1.inter > 0)) } : esc_ParserO))) [F_, R_ [o_, o_, o_], T_, R_ [o_, o_, o_, o_, o_, o_, o_, o_, o_, o_, o_, o_, o_, o_, o_], R_ [o_, o_, o_, o_, o_]] [some 0, some 1, some 2, some 3, some 1, some 2, some 4] (pc ((h3 : x20_1 = false)) <| pc ((h4 : decide (a1 < 48) = true)) <| pc zlt1 <| pc ((fun h => h : ((!r1.1.spoilt) = true → (!r1.1.spoilt) = true))) <| pc ((fun h => h : ((!r1.1.spoilt) = true → (!r1.1.spoilt) = true))) <| pc ((fun h => h : ((!r1.1.spoilt) = true → (!r1.1.spoilt) = true))) <| pc ((fun _ => zlt1 : ((!r1.1.spoilt) = true → 0 < 1))) <| pc ((fun h => h : ((!r1.1.spoilt) = true → (!r1.1.spoilt) = true))) <| pc ((fun k2 => (not_t k2) : (r1.1.spoilt = false → (!r1.1.spoilt) = true))) <| pc zlt1 <| pc zlt1 <| allP_nil) (by kernel_rfl) (by kernel_rfl)
    · rcases of_ifb h with ⟨h5, h⟩ | ⟨h5, h⟩
      · obtain ⟨r2, h6, h⟩ := of_bnd h
        replace h := Option.some.inj h
        subst h
        exact WM.retE mixed (e_F64 a0 a1 (r2)) [F_, R_ [o_, o_, o_], F_, R_ [o_, o_, o_], T_, R_ [o_, o_, c_ (mkCall Tryz.call97 (F97_ok h6) [0, 1, 2, 4, 5] (by kernel_rfl) (by kernel_rfl))]] [some 0, some 1, some 2, some 3, some 5, some 2, some 4] (pc ((h3 : x20_1 = false)) <| pc ((h4 : decide (a1 < 48) = false)) <| pc ((h5 : decide (a1 < 64) = true)) <| allP_nil) (by kernel_rfl) (by kernel_rfl)
      · rcases of_ifb h with ⟨h7, h⟩ | ⟨h7, h⟩
        · obtain ⟨r3, h8, h⟩ := of_bnd h
          obtain ⟨r4, h9, h⟩ := of_bnd h
          exact WM.cut mixed [F_, R_ [o_, o_, o_], F_, R_ [o_, o_, o_], F_, R_ [o_, o_, o_, o_, o_, o_, o_, o_, o_], T_, R_ [o_, o_, o_, c_ (mkCall Tryz.call98 (F98_ok h8) [0, 1, 2, 4, 5] (by kernel_rfl) (by kernel_rfl)), c_ (mkCall Tryz.call96 (F96_1_ok h9) [0, 2, 4, 6] (by kernel_rfl) (by kernel_rfl))]] [some 0, some 1, some 2, some 3, some 6] (pc ((h3 : x20_1 = false)) <| pc ((h4 : decide (a1 < 48) = false)) <| pc ((h5 : decide (a1 < 64) = false)) <| pc ((fun h => h : (decide (a1 < 127) = true → decide (a1 < 127) = true))) <| pc ((fun h => h : (decide (a1 < 127) = true → decide (a1 < 127) = true))) <| pc ((fun h => h : (decide (a1 < 127) = true → decide (a1 < 127) = true))) <| pc ((fun _ => zlt1 : (decide (a1 < 127) = true → 0 < 1))) <| pc ((fun h => h : (decide (a1 < 127) = true → decide (a1 < 127) = true))) <| pc ((fun k2 => k2 : (decide (a1 < 127) = true → decide (a1 < 127) = true))) <| pc ((h7 : (decide (a1 < 127) && (!r1.1.spoilt)) = true)) <| allP_nil) (F64_p2_ok h) (by kernel_rfl)
        · exact WM.cut mixed [F_, R_ [o_, o_, o_], F_, R_ [o_, o_, o_], F_, R_ [o_, o_, o_, o_, o_, o_, o_, o_, o_], F_, .weak 0 (svB 8 [.i .i64 r1.1.state, .u, .b r1.1.told, .i .i32 r1.1.private_, .i .i32 r1.1.inter, .b r1.1.spoilt, .sl 2 0 r1.1.text_n, .sl 4 0 r1.1.out_n])] [some 0, some 1, some 2, some 3, some 4] (pc ((h3 : x20_1 = false)) <| pc ((h4 : decide (a1 < 48) = false)) <| pc ((h5 : decide (a1 < 64) = false)) <| pc ((fun h => h : (decide (a1 < 127) = true → decide (a1 < 127) = true))) <| pc ((fun h => h : (decide (a1 < 127) = true → decide (a1 < 127) = true))) <| pc ((fun h => h : (decide (a1 < 127) = true → decide (a1 < 127) = true))) <| pc ((fun _ => zlt1 : (decide (a1 < 127) = true → 0 < 1))) <| pc ((fun h => h : (decide (a1 < 127) = true → decide (a1 < 127) = true))) <| pc ((fun k2 => k2 : (decide (a1 < 127) = true → decide (a1 < 127) = true))) <| pc ((h7 : (decide (a1 < 127) && (!r1.1.spoilt)) = false)) <| allP_nil) (F64_p2_ok h) (by kernel_rfl)
set_option maxRecDepth 100000 in
set_option maxHeartbeats 4000000 in
theorem F64_ok {f : Nat} {a0 : esc_ParserO} {a1 : Int} {y : esc_ParserO} (h : F64 f a0 a1 = some y) :
    Spec Tryz.prog G0 64 [.p 0 0 0, .i .i32 a1] [some (B_esc_ParserO 1 2 3 a0), some (intB .i64 a0.params), some (intB .i32 a0.text), some (blk_esc_Event a0.out)] (v_F64 a0 a1 y) (x_F64 a0 a1 y) :=
  Spec.ofM (fn := Tryz.f64) (c := bodyOf Tryz.f64) (n := 53) (rs := Tryz.f64.results.toList) Tryz.func64 (by kernel_rfl) (by kernel_rfl) (by kernel_rfl) (by kernel_rfl) fun cx => by
  unfold F64 at h
  obtain ⟨r1, h1, h⟩ := of_bnd h
  rcases of_ifb h with ⟨h2, h⟩ | ⟨h2, h⟩
  · exact WM.cut mixed [R_ [o_, o_, c_ (mkCall Tryz.call95 (F95_ok h1) [0, 1, 2, 3, 4] (by kernel_rfl) (by kernel_rfl)), o_], T_] [some 0, some 1, some 2, some 3, some 4] (pc ((h2 : r1.2 = true)) <| allP_nil) (F64_p1_ok h) (by kernel_rfl)
  · exact WM.cut mixed [R_ [o_, o_, c_ (mkCall Tryz.call95 (F95_ok h1) [0, 1, 2, 3, 4] (by kernel_rfl) (by kernel_rfl)), o_], F_, R_ [o_, o_, o_]] [some 0, some 1, some 2, some 3, some 4] (pc ((h2 : r1.2 = false)) <| allP_nil) (F64_p1_ok h) (by kernel_rfl)

/-! ### F66: function 66 (*tickertape/esc.Parser).ends -/
def F66 (f : Nat) (a0 : esc_ParserO) : Option (esc_ParserO) :=
  chk ((0 + a0.text_n) ≤ a0.text.length) <|
  bnd (F96 f a0 (esc_Event.mk 5 0 [] 0 0 0 ((ints ((a0.text.drop 0).take a0.text_n)).flatMap utf8))) fun r1 =>
  bnd (F60 f r1 0) fun r2 =>
  some (r2)
def v_F66 (a0 : esc_ParserO) (y : esc_ParserO) : V :=
  .tup []
def e_F66 (a0 : esc_ParserO) (y : esc_ParserO) : Env :=
  []
def x_F66 (a0 : esc_ParserO) (y : esc_ParserO) : List (Option Blk) :=
  [some (B_esc_ParserO 4 5 6 y), none, none, none, some (intB .i64 y.params), some (intB .i32 y.text), some (blk_esc_Event y.out)]
set_option maxRecDepth 100000 in
set_option maxHeartbeats 4000000 in
theorem F66_ok {f : Nat} {a0 : esc_ParserO} {y : esc_ParserO} (h : F66 f a0 = some y) :
    Spec Tryz.prog G0 66 [.p 0 0 0] [some (B_esc_ParserO 1 2 3 a0), some (intB .i64 a0.params), some (intB .i32 a0.text), some (blk_esc_Event a0.out)] (v_F66 a0 y) (x_F66 a0 y) :=
  Spec.ofM (fn := Tryz.f66) (c := bodyOf Tryz.f66) (n := 12) (rs := Tryz.f66.results.toList) Tryz.func66 (by kernel_rfl) (by kernel_rfl) (by kernel_rfl) (by kernel_rfl) fun cx => by
  unfold F66 at h
  obtain ⟨h1, h⟩ := of_chk h
  obtain ⟨r1, h2, h⟩ := of_bnd h
  obtain ⟨r2, h3, h⟩ := of_bnd h
  replace h := Option.some.inj h
  subst h
  exact WM.retE mixed (e_F66 a0 (r2)) [R_ [o_, o_, o_, o_, o_, o_, .weak .auto (.agg [.i .i64 5, .i .i32 0, .ro Int 1 (fun n => [.i .i64 n]) 0 [], .i .i32 0, .i .i32 0, .i .i32 0, .s ((ints ((a0.text.drop 0).take a0.text_n)).flatMap utf8)]), c_ (mkCall Tryz.call96 (F96_ok h2) [0, 1, 2, 3, 4] (by kernel_rfl) (by kernel_rfl))], R_ [o_, c_ (mkCall Tryz.call60 (F60_ok h3) [0, 1, 2, 4, 5, 6] (by kernel_rfl) (by kernel_rfl))]] [some 0, some 1, some 2, some 3, some 5, some 6, some 4] (pc zlt1 <| pc h1 <| allP_nil) (by kernel_rfl) (by kernel_rfl)

/-! ### F65: function 65 (*tickertape/esc.Parser).command -/
def F65 (f : Nat) (a0 : esc_ParserO) (a1 : Int) : Option (esc_ParserO) :=
  ifb (decide (a1 = 7)) (
    bnd (F66 f a0) fun r1 =>
    some (r1)) (
    ifb ((decide (a1 < 32) || decide (a1 = 127))) (
      some (a0)) (
      ifb (decide (((a0.text_n : Nat) : Int) < 128)) (
        chk (a0.text_n = a0.text.length) <|
        chk (((((a0.text_n + 1)) * 4 : Nat) : Int) ≤ 140737488355328) <|
        some (({ a0 with text_n := (a0.text_n + 1), text := (a0.text ++ [a1]) } : esc_ParserO))) (
        some (a0))))
def v_F65 (a0 : esc_ParserO) (a1 : Int) (y : esc_ParserO) : V :=
  .tup []
def e_F65 (a0 : esc_ParserO) (a1 : Int) (y : esc_ParserO) : Env :=
  []
def x_F65 (a0 : esc_ParserO) (a1 : Int) (y : esc_ParserO) : List (Option Blk) :=
  [some (B_esc_ParserO 4 5 6 y), none, none, none, some (intB .i64 y.params), some (intB .i32 y.text), some (blk_esc_Event y.out)]
set_option maxRecDepth 100000 in
set_option maxHeartbeats 4000000 in
theorem F65_ok {f : Nat} {a0 : esc_ParserO} {a1 : Int} {y : esc_ParserO} (h : F65 f a0 a1 = some y) :
    Spec Tryz.prog G0 65 [.p 0 0 0, .i .i32 a1] [some (B_esc_ParserO 1 2 3 a0), some (intB .i64 a0.params), some (intB .i32 a0.text), some (blk_esc_Event a0.out)] (v_F65 a0 a1 y) (x_F65 a0 a1 y) :=
  Spec.ofM (fn := Tryz.f65) (c := bodyOf Tryz.f65) (n := 33) (rs := Tryz.f65.results.toList) Tryz.func65 (by kernel_rfl) (by kernel_rfl) (by kernel_rfl) (by kernel_rfl) fun cx => by
  unfold F65 at h
  rcases of_ifb h with ⟨h1, h⟩ | ⟨h1, h⟩
  · obtain ⟨r1, h2, h⟩ := of_bnd h
    replace h := Option.some.inj h
    subst h
    exact WM.retE mixed (e_F65 a0 a1 (r1)) [R_ [o_, o_, o_], T_, R_ [o_, c_ (mkCall Tryz.call66 (F66_ok h2) [0, 1, 2, 3, 4, 5, 6] (by kernel_rfl) (by kernel_rfl))]] [some 0, some 1, some 2, some 3, some 4, some 5, some 6] (pc ((h1 : decide (a1 = 7) = true)) <| allP_nil) (by kernel_rfl) (by kernel_rfl)
  · rcases of_ifb h with ⟨h3, h⟩ | ⟨h3, h⟩
    · replace h := Option.some.inj h
      subst h
      exact WM.retE mixed (e_F65 a0 a1 (a0)) [R_ [o_, o_, o_], F_, R_ [o_, o_, o_, o_, o_, o_, o_], T_] [some 0, some 1, some 2, some 3, some 1, some 2, some 3] (pc ((h1 : decide (a1 = 7) = false)) <| pc ((fun h => h : ((!(decide (a1 < 32))) = true → (!(decide (a1 < 32))) = true))) <| pc ((fun k2 => (not_t k2) : (decide (a1 < 32) = false → (!(decide (a1 < 32))) = true))) <| pc ((h3 : (decide (a1 < 32) || decide (a1 = 127)) = true)) <| allP_nil) (by kernel_rfl) (by kernel_rfl)
    · rcases of_ifb h with ⟨h4, h⟩ | ⟨h4, h⟩
      · obtain ⟨h5, h⟩ := of_chk h
        obtain ⟨h6, h⟩ := of_chk h
        replace h := Option.some.inj h
        subst h
        exact WM.retE mixed (e_F65 a0 a1 (({ a0 with text_n := (a0.text_n + 1), text := (a0.text ++ [a1]) } : esc_ParserO))) [R_ [o_, o_, o_], F_, R_ [o_, o_, o_, o_, o_, o_, o_], F_, R_ [o_, o_, o_, o_, o_, o_, o_], T_, R_ [o_, o_, o_, o_, o_, o_, .op (.fresh 4 (intB .i32 [a1])), .op (.fresh 5 (intB .u8 [])), o_, o_, o_]] [some 0, some 1, some 2, some 3, some 1, some 5, some 3] (pc ((h1 : decide (a1 = 7) = false)) <| pc ((fun h => h : ((!(decide (a1 < 32))) = true → (!(decide (a1 < 32))) = true))) <| pc ((fun k2 => (not_t k2) : (decide (a1 < 32) = false → (!(decide (a1 < 32))) = true))) <| pc ((h3 : (decide (a1 < 32) || decide (a1 = 127)) = false)) <| pc zlt1 <| pc ((h4 : decide (((a0.text_n : Nat) : Int) < 128) = true)) <| pc zlt1 <| pc h5 <| pc h6 <| pc ((by decide : 1 ≤ 1)) <| pc zlt1 <| allP_nil) (by kernel_rfl) (by kernel_rfl)
      · replace h := Option.some.inj h
        subst h
        exact WM.retE mixed (e_F65 a0 a1 (a0)) [R_ [o_, o_, o_], F_, R_ [o_, o_, o_, o_, o_, o_, o_], F_, R_ [o_, o_, o_, o_, o_, o_, o_], F_] [some 0, some 1, some 2, some 3, some 1, some 2, some 3] (pc ((h1 : decide (a1 = 7) = false)) <| pc ((fun h => h : ((!(decide (a1 < 32))) = true → (!(decide (a1 < 32))) = true))) <| pc ((fun k2 => (not_t k2) : (decide (a1 < 32) = false → (!(decide (a1 < 32))) = true))) <| pc ((h3 : (decide (a1 < 32) || decide (a1 = 127)) = false)) <| pc zlt1 <| pc ((h4 : decide (((a0.text_n : Nat) : Int) < 128) = false)) <| allP_nil) (by kernel_rfl) (by kernel_rfl)

/-! ### F40: function 40 (*tickertape/esc.Parser).take -/
def F40 (f : Nat) (a0 : esc_ParserO) (a1 : Int) : Option (esc_ParserO) :=
  ifb ((decide (a1 = 24) || decide (a1 = 26))) (
    bnd (F60 f a0 0) fun r1 =>
    some (r1)) (
    ifb ((decide (a1 = 27) && decide (a0.state = 4))) (
      some (({ a0 with state := 6 } : esc_ParserO))) (
      ifb ((decide (a1 = 27) && decide (a0.state = 5))) (
        some (({ a0 with state := 7 } : esc_ParserO))) (
        ifb (decide (a1 = 27)) (
          bnd (F60 f a0 1) fun r2 =>
          some (r2)) (
          ifb (decide (a0.state = 0)) (
            bnd (F61 f a0 a1) fun r3 =>
            some (r3)) (
            ifb (decide (a0.state = 1)) (
              bnd (F62 f a0 a1) fun r4 =>
              some (r4)) (
              ifb (decide (a0.state = 2)) (
                bnd (F63 f a0 a1) fun r5 =>
                some (r5)) (
                ifb (decide (a0.state = 3)) (
                  bnd (F64 f a0 a1) fun r6 =>
                  some (r6)) (
                  ifb (decide (a0.state = 4)) (
                    bnd (F65 f a0 a1) fun r7 =>
                    some (r7)) (
                    ifb ((decide (a0.state = 6) && decide (a1 = 92))) (
                      bnd (F66 f a0) fun r8 =>
                      some (r8)) (
                      ifb ((decide (a0.state = 7) && decide (a1 = 92))) (
                        bnd (F60 f a0 0) fun r9 =>
                        some (r9)) (
                        ifb ((!(decide (a0.state = 5)))) (
                          bnd (F60 f a0 1) fun r10 =>
                          bnd (F62 f r10 a1) fun r11 =>
                          some (r11)) (
                          some (a0)))))))))))))
def v_F40 (a0 : esc_ParserO) (a1 : Int) (y : esc_ParserO) : V :=
  .tup []
def e_F40 (a0 : esc_ParserO) (a1 : Int) (y : esc_ParserO) : Env :=
  []
def x_F40 (a0 : esc_ParserO) (a1 : Int) (y : esc_ParserO) : List (Option Blk) :=
  [some (B_esc_ParserO 4 5 6 y), none, none, none, some (intB .i64 y.params), some (intB .i32 y.text), some (blk_esc_Event y.out)]
set_option maxRecDepth 100000 in
set_option maxHeartbeats 4000000 in
theorem F40_ok {f : Nat} {a0 : esc_ParserO} {a1 : Int} {y : esc_ParserO} (h : F40 f a0 a1 = some y) :
    Spec Tryz.prog G0 40 [.p 0 0 0, .i .i32 a1] [some (B_esc_ParserO 1 2 3 a0), some (intB .i64 a0.params), some (intB .i32 a0.text), some (blk_esc_Event a0.out)] (v_F40 a0 a1 y) (x_F40 a0 a1 y) :=
  Spec.ofM (fn := Tryz.f40) (c := bodyOf Tryz.f40) (n := 99) (rs := Tryz.f40.results.toList) Tryz.func40 (by kernel_rfl) (by kernel_rfl) (by kernel_rfl) (by kernel_rfl) fun cx => by
  unfold F40 at h
  rcases of_ifb h with ⟨h1, h⟩ | ⟨h1, h⟩
  · obtain ⟨r1, h2, h⟩ := of_bnd h
    replace h := Option.some.inj h
    subst h
    exact WM.retE mixed (e_F40 a0 a1 (r1)) [R_ [o_, o_, o_, o_, o_], R_ [o_, o_, o_, o_, o_, o_, o_], T_, R_ [o_, c_ (mkCall Tryz.call60 (F60_ok h2) [0, 1, 2, 3, 4, 5] (by kernel_rfl) (by kernel_rfl))]] [some 0, some 1, some 2, some 3, some 4, some 5, some 3] (pc zlt1 <| pc ((fun h => h : ((!(decide (a1 = 24))) = true → (!(decide (a1 = 24))) = true))) <| pc ((fun k2 => (not_t k2) : (decide (a1 = 24) = false → (!(decide (a1 = 24))) = true))) <| pc ((h1 : (decide (a1 = 24) || decide (a1 = 26)) = true)) <| allP_nil) (by kernel_rfl) (by kernel_rfl)
  · rcases of_ifb h with ⟨h3, h⟩ | ⟨h3, h⟩
    · replace h := Option.some.inj h
      subst h
      exact WM.retE mixed (e_F40 a0 a1 (({ a0 with state := 6 } : esc_ParserO))) [R_ [o_, o_, o_, o_, o_], R_ [o_, o_, o_, o_, o_, o_, o_], F_, R_ [o_, o_, o_, o_, o_, o_, o_], T_, R_ [o_, o_, o_, o_]] [some 0, some 1, some 2, some 3, some 1, some 2, some 3] (pc zlt1 <| pc ((fun h => h : ((!(decide (a1 = 24))) = true → (!(decide (a1 = 24))) = true))) <| pc ((fun k2 => (not_t k2) : (decide (a1 = 24) = false → (!(decide (a1 = 24))) = true))) <| pc ((h1 : (decide (a1 = 24) || decide (a1 = 26)) = false)) <| pc ((fun h => h : (decide (a1 = 27) = true → decide (a1 = 27) = true))) <| pc ((fun k2 => k2 : (decide (a1 = 27) = true → decide (a1 = 27) = true))) <| pc ((h3 : (decide (a1 = 27) && decide (a0.state = 4)) = true)) <| pc zlt1 <| allP_nil) (by kernel_rfl) (by kernel_rfl)
    · rcases of_ifb h with ⟨h4, h⟩ | ⟨h4, h⟩
      · replace h := Option.some.inj h
        subst h
        exact WM.retE mixed (e_F40 a0 a1 (({ a0 with state := 7 } : esc_ParserO))) [R_ [o_, o_, o_, o_, o_], R_ [o_, o_, o_, o_, o_, o_, o_], F_, R_ [o_, o_, o_, o_, o_, o_, o_], F_, R_ [o_, o_, o_, o_, o_, o_, o_], T_, R_ [o_, o_, o_, o_]] [some 0, some 1, some 2, some 3, some 1, some 2, some 3] (pc zlt1 <| pc ((fun h => h : ((!(decide (a1 = 24))) = true → (!(decide (a1 = 24))) = true))) <| pc ((fun k2 => (not_t k2) : (decide (a1 = 24) = false → (!(decide (a1 = 24))) = true))) <| pc ((h1 : (decide (a1 = 24) || decide (a1 = 26)) = false)) <| pc ((fun h => h : (decide (a1 = 27) = true → decide (a1 = 27) = true))) <| pc ((fun k2 => k2 : (decide (a1 = 27) = true → decide (a1 = 27) = true))) <| pc ((h3 : (decide (a1 = 27) && decide (a0.state = 4)) = false)) <| pc ((fun h => h : (decide (a1 = 27) = true → decide (a1 = 27) = true))) <| pc ((fun k2 => k2 : (decide (a1 = 27) = true → decide (a1 = 27) = true))) <| pc ((h4 : (decide (a1 = 27) && decide (a0.state = 5)) = true)) <| pc zlt1 <| allP_nil) (by kernel_rfl) (by kernel_rfl)
      · rcases of_ifb h with ⟨h5, h⟩ | ⟨h5, h⟩
        · obtain ⟨r2, h6, h⟩ := of_bnd h
          replace h := Option.some.inj h
          subst h
          exact WM.retE mixed (e_F40 a0 a1 (r2)) [R_ [o_, o_, o_, o_, o_], R_ [o_, o_, o_, o_, o_, o_, o_], F_, R_ [o_, o_, o_, o_, o_, o_, o_], F_, R_ [o_, o_, o_, o_, o_, o_, o_], F_, R_ [o_, o_, o_], T_, R_ [o_, c_ (mkCall Tryz.call60 (F60_ok h6) [0, 1, 2, 3, 4, 5] (by kernel_rfl) (by kernel_rfl))]] [some 0, some 1, some 2, some 3, some 4, some 5, some 3] (pc zlt1 <| pc ((fun h => h : ((!(decide (a1 = 24))) = true → (!(decide (a1 = 24))) = true))) <| pc ((fun k2 => (not_t k2) : (decide (a1 = 24) = false → (!(decide (a1 = 24))) = true))) <| pc ((h1 : (decide (a1 = 24) || decide (a1 = 26)) = false)) <| pc ((fun h => h : (decide (a1 = 27) = true → decide (a1 = 27) = true))) <| pc ((fun k2 => k2 : (decide (a1 = 27) = true → decide (a1 = 27) = true))) <| pc ((h3 : (decide (a1 = 27) && decide (a0.state = 4)) = false)) <| pc ((fun h => h : (decide (a1 = 27) = true → decide (a1 = 27) = true))) <| pc ((fun k2 => k2 : (decide (a1 = 27) = true → decide (a1 = 27) = true))) <| pc ((h4 : (decide (a1 = 27) && decide (a0.state = 5)) = false)) <| pc ((h5 : decide (a1 = 27) = true)) <| allP_nil) (by kernel_rfl) (by kernel_rfl)
        · rcases of_ifb h with ⟨h7, h⟩ | ⟨h7, h⟩
          · obtain ⟨r3, h8, h⟩ := of_bnd h
            replace h := Option.some.inj h
            subst h
            exact WM.retE mixed (e_F40 a0 a1 (r3)) [R_ [o_, o_, o_, o_, o_], R_ [o_, o_, o_, o_, o_, o_, o_], F_, R_ [o_, o_, o_, o_, o_, o_, o_], F_, R_ [o_, o_, o_, o_, o_, o_, o_], F_, R_ [o_, o_, o_], F_, R_ [o_, o_, o_], T_, R_ [o_, o_, c_ (mkCall Tryz.call61 (F61_ok h8) [0, 1, 2, 3, 4] (by kernel_rfl) (by kernel_rfl))]] [some 0, some 1, some 2, some 3, some 1, some 2, some 4] (pc zlt1 <| pc ((fun h => h : ((!(decide (a1 = 24))) = true → (!(decide (a1 = 24))) = true))) <| pc ((fun k2 => (not_t k2) : (decide (a1 = 24) = false → (!(decide (a1 = 24))) = true))) <| pc ((h1 : (decide (a1 = 24) || decide (a1 = 26)) = false)) <| pc ((fun h => h : (decide (a1 = 27) = true → decide (a1 = 27) = true))) <| pc ((fun k2 => k2 : (decide (a1 = 27) = true → decide (a1 = 27) = true))) <| pc ((h3 : (decide (a1 = 27) && decide (a0.state = 4)) = false)) <| pc ((fun h => h : (decide (a1 = 27) = true → decide (a1 = 27) = true))) <| pc ((fun k2 => k2 : (decide (a1 = 27) = true → decide (a1 = 27) = true))) <| pc ((h4 : (decide (a1 = 27) && decide (a0.state = 5)) = false)) <| pc ((h5 : decide (a1 = 27) = false)) <| pc ((h7 : decide (a0.state = 0) = true)) <| allP_nil) (by kernel_rfl) (by kernel_rfl)
          · rcases of_ifb h with ⟨h9, h⟩ | ⟨h9, h⟩
            · obtain ⟨r4, h10, h⟩ := of_bnd h
              replace h := Option.some.inj h
              subst h
              exact WM.retE mixed (e_F40 a0 a1 (r4)) [R_ [o_, o_, o_, o_, o_], R_ [o_, o_, o_, o_, o_, o_, o_], F_, R_ [o_, o_, o_, o_, o_, o_, o_], F_, R_ [o_, o_, o_, o_, o_, o_, o_], F_, R_ [o_, o_, o_], F_, R_ [o_, o_, o_], F_, R_ [o_, o_, o_], T_, R_ [o_, o_, c_ (mkCall Tryz.call62 (F62_ok h10) [0, 1, 2, 3, 4, 5, 6] (by kernel_rfl) (by kernel_rfl))]] [some 0, some 1, some 2, some 3, some 4, some 5, some 6] (pc zlt1 <| pc ((fun h => h : ((!(decide (a1 = 24))) = true → (!(decide (a1 = 24))) = true))) <| pc ((fun k2 => (not_t k2) : (decide (a1 = 24) = false → (!(decide (a1 = 24))) = true))) <| pc ((h1 : (decide (a1 = 24) || decide (a1 = 26)) = false)) <| pc ((fun h => h : (decide (a1 = 27) = true → decide (a1 = 27) = true))) <| pc ((fun k2 => k2 : (decide (a1 = 27) = true → decide (a1 = 27) = true))) <| pc ((h3 : (decide (a1 = 27) && decide (a0.state = 4)) = false)) <| pc ((fun h => h : (decide (a1 = 27) = true → decide (a1 = 27) = true))) <| pc ((fun k2 => k2 : (decide (a1 = 27) = true → decide (a1 = 27) = true))) <| pc ((h4 : (decide (a1 = 27) && decide (a0.state = 5)) = false)) <| pc ((h5 : decide (a1 = 27) = false)) <| pc ((h7 : decide (a0.state = 0) = false)) <| pc ((h9 : decide (a0.state = 1) = true)) <| allP_nil) (by kernel_rfl) (by kernel_rfl)
            · rcases of_ifb h with ⟨h11, h⟩ | ⟨h11, h⟩
              · obtain ⟨r5, h12, h⟩ := of_bnd h
                replace h := Option.some.inj h
                subst h
                exact WM.retE mixed (e_F40 a0 a1 (r5)) [R_ [o_, o_, o_, o_, o_], R_ [o_, o_, o_, o_, o_, o_, o_], F_, R_ [o_, o_, o_, o_, o_, o_, o_], F_, R_ [o_, o_, o_, o_, o_, o_, o_], F_, R_ [o_, o_, o_], F_, R_ [o_, o_, o_], F_, R_ [o_, o_, o_], F_, R_ [o_, o_, o_], T_, R_ [o_, o_, c_ (mkCall Tryz.call63 (F63_ok h12) [0, 1, 2, 3, 4, 5, 6] (by kernel_rfl) (by kernel_rfl))]] [some 0, some 1, some 2, some 3, some 4, some 5, some 6] (pc zlt1 <| pc ((fun h => h : ((!(decide (a1 = 24))) = true → (!(decide (a1 = 24))) = true))) <| pc ((fun k2 => (not_t k2) : (decide (a1 = 24) = false → (!(decide (a1 = 24))) = true))) <| pc ((h1 : (decide (a1 = 24) || decide (a1 = 26)) = false)) <| pc ((fun h => h : (decide (a1 = 27) = true → decide (a1 = 27) = true))) <| pc ((fun k2 => k2 : (decide (a1 = 27) = true → decide (a1 = 27) = true))) <| pc ((h3 : (decide (a1 = 27) && decide (a0.state = 4)) = false)) <| pc ((fun h => h : (decide (a1 = 27) = true → decide (a1 = 27) = true))) <| pc ((fun k2 => k2 : (decide (a1 = 27) = true → decide (a1 = 27) = true))) <| pc ((h4 : (decide (a1 = 27) && decide (a0.state = 5)) = false)) <| pc ((h5 : decide (a1 = 27) = false)) <| pc ((h7 : decide (a0.state = 0) = false)) <| pc ((h9 : decide (a0.state = 1) = false)) <| pc ((h11 : decide (a0.state = 2) = true)) <| allP_nil) (by kernel_rfl) (by kernel_rfl)
              · rcases of_ifb h with ⟨h13, h⟩ | ⟨h13, h⟩
                · obtain ⟨r6, h14, h⟩ := of_bnd h
                  replace h := Option.some.inj h
                  subst h
                  exact WM.retE mixed (e_F40 a0 a1 (r6)) [R_ [o_, o_, o_, o_, o_], R_ [o_, o_, o_, o_, o_, o_, o_], F_, R_ [o_, o_, o_, o_, o_, o_, o_], F_, R_ [o_, o_, o_, o_, o_, o_, o_], F_, R_ [o_, o_, o_], F_, R_ [o_, o_, o_], F_, R_ [o_, o_, o_], F_, R_ [o_, o_, o_], F_, R_ [o_, o_, o_], T_, R_ [o_, o_, c_ (mkCall Tryz.call64 (F64_ok h14) [0, 1, 2, 3, 4, 5, 6] (by kernel_rfl) (by kernel_rfl))]] [some 0, some 1, some 2, some 3, some 4, some 5, some 6] (pc zlt1 <| pc ((fun h => h : ((!(decide (a1 = 24))) = true → (!(decide (a1 = 24))) = true))) <| pc ((fun k2 => (not_t k2) : (decide (a1 = 24) = false → (!(decide (a1 = 24))) = true))) <| pc ((h1 : (decide (a1 = 24) || decide (a1 = 26)) = false)) <| pc ((fun h => h : (decide (a1 = 27) = true → decide (a1 = 27) = true))) <| pc ((fun k2 => k2 : (decide (a1 = 27) = true → decide (a1 = 27) = true))) <| pc ((h3 : (decide (a1 = 27) && decide (a0.state = 4)) = false)) <| pc ((fun h => h : (decide (a1 = 27) = true → decide (a1 = 27) = true))) <| pc ((fun k2 => k2 : (decide (a1 = 27) = true → decide (a1 = 27) = true))) <| pc ((h4 : (decide (a1 = 27) && decide (a0.state = 5)) = false)) <| pc ((h5 : decide (a1 = 27) = false)) <| pc ((h7 : decide (a0.state = 0) = false)) <| pc ((h9 : decide (a0.state = 1) = false)) <| pc ((h11 : decide (a0.state = 2) = false)) <| pc ((h13 : decide (a0.state = 3) = true)) <| allP_nil) (by kernel_rfl) (by kernel_rfl)
                · rcases of_ifb h with ⟨h15, h⟩ | ⟨h15, h⟩
                  · obtain ⟨r7, h16, h⟩ := of_bnd h
                    replace h := Option.some.inj h
                    subst h
                    exact WM.retE mixed (e_F40 a0 a1 (r7)) [R_ [o_, o_, o_, o_, o_], R_ [o_, o_, o_, o_, o_, o_, o_], F_, R_ [o_, o_, o_, o_, o_, o_, o_], F_, R_ [o_, o_, o_, o_, o_, o_, o_], F_, R_ [o_, o_, o_], F_, R_ [o_, o_, o_], F_, R_ [o_, o_, o_], F_, R_ [o_, o_, o_], F_, R_ [o_, o_, o_], F_, R_ [o_, o_, o_], T_, R_ [o_, o_, c_ (mkCall Tryz.call65 (F65_ok h16) [0, 1, 2, 3, 4, 5, 6] (by kernel_rfl) (by kernel_rfl))]] [some 0, some 1, some 2, some 3, some 4, some 5, some 6] (pc zlt1 <| pc ((fun h => h : ((!(decide (a1 = 24))) = true → (!(decide (a1 = 24))) = true))) <| pc ((fun k2 => (not_t k2) : (decide (a1 = 24) = false → (!(decide (a1 = 24))) = true))) <| pc ((h1 : (decide (a1 = 24) || decide (a1 = 26)) = false)) <| pc ((fun h => h : (decide (a1 = 27) = true → decide (a1 = 27) = true))) <| pc ((fun k2 => k2 : (decide (a1 = 27) = true → decide (a1 = 27) = true))) <| pc ((h3 : (decide (a1 = 27) && decide (a0.state = 4)) = false)) <| pc ((fun h => h : (decide (a1 = 27) = true → decide (a1 = 27) = true))) <| pc ((fun k2 => k2 : (decide (a1 = 27) = true → decide (a1 = 27) = true))) <| pc ((h4 : (decide (a1 = 27) && decide (a0.state = 5)) = false)) <| pc ((h5 : decide (a1 = 27) = false)) <| pc ((h7 : decide (a0.state = 0) = false)) <| pc ((h9 : decide (a0.state = 1) = false)) <| pc ((h11 : decide (a0.state = 2) = false)) <| pc ((h13 : decide (a0.state = 3) = false)) <| pc ((h15 : decide (a0.state = 4) = true)) <| allP_nil) (by kernel_rfl) (by kernel_rfl)
                  · rcases of_ifb h with ⟨h17, h⟩ | ⟨h17, h⟩
                    · obtain ⟨r8, h18, h⟩ := of_bnd h
                      replace h := Option.some.inj h
                      subst h
                      exact WM.retE mixed (e_F40 a0 a1 (r8)) [R_ [o_, o_, o_, o_, o_], R_ [o_, o_, o_, o_, o_, o_, o_], F_, R_ [o_, o_, o_, o_, o_, o_, o_], F_, R_ [o_, o_, o_, o_, o_, o_, o_], F_, R_ [o_, o_, o_], F_, R_ [o_, o_, o_], F_, R_ [o_, o_, o_], F_, R_ [o_, o_, o_], F_, R_ [o_, o_, o_], F_, R_ [o_, o_, o_], F_, R_ [o_, o_, o_, o_, o_, o_, o_], T_, R_ [o_, c_ (mkCall Tryz.call66 (F66_ok h18) [0, 1, 2, 3, 4, 5, 6] (by kernel_rfl) (by kernel_rfl))]] [some 0, some 1, some 2, some 3, some 4, some 5, some 6] (pc zlt1 <| pc ((fun h => h : ((!(decide (a1 = 24))) = true → (!(decide (a1 = 24))) = true))) <| pc ((fun k2 => (not_t k2) : (decide (a1 = 24) = false → (!(decide (a1 = 24))) = true))) <| pc ((h1 : (decide (a1 = 24) || decide (a1 = 26)) = false)) <| pc ((fun h => h : (decide (a1 = 27) = true → decide (a1 = 27) = true))) <| pc ((fun k2 => k2 : (decide (a1 = 27) = true → decide (a1 = 27) = true))) <| pc ((h3 : (decide (a1 = 27) && decide (a0.state = 4)) = false)) <| pc ((fun h => h : (decide (a1 = 27) = true → decide (a1 = 27) = true))) <| pc ((fun k2 => k2 : (decide (a1 = 27) = true → decide (a1 = 27) = true))) <| pc ((h4 : (decide (a1 = 27) && decide (a0.state = 5)) = false)) <| pc ((h5 : decide (a1 = 27) = false)) <| pc ((h7 : decide (a0.state = 0) = false)) <| pc ((h9 : decide (a0.state = 1) = false)) <| pc ((h11 : decide (a0.state = 2) = false)) <| pc ((h13 : decide (a0.state = 3) = false)) <| pc ((h15 : decide (a0.state = 4) = false)) <| pc ((fun h => h : (decide (a0.state = 6) = true → decide (a0.state = 6) = true))) <| pc ((fun k2 => k2 : (decide (a0.state = 6) = true → decide (a0.state = 6) = true))) <| pc ((h17 : (decide (a0.state = 6) && decide (a1 = 92)) = true)) <| allP_nil) (by kernel_rfl) (by kernel_rfl)
                    · rcases of_ifb h with ⟨h19, h⟩ | ⟨h19, h⟩
                      · obtain ⟨r9, h20, h⟩ := of_bnd h
                        replace h := Option.some.inj h
                        subst h
                        exact WM.retE mixed (e_F40 a0 a1 (r9)) [R_ [o_, o_, o_, o_, o_], R_ [o_, o_, o_, o_, o_, o_, o_], F_, R_ [o_, o_, o_, o_, o_, o_, o_], F_, R_ [o_, o_, o_, o_, o_, o_, o_], F_, R_ [o_, o_, o_], F_, R_ [o_, o_, o_], F_, R_ [o_, o_, o_], F_, R_ [o_, o_, o_], F_, R_ [o_, o_, o_], F_, R_ [o_, o_, o_], F_, R_ [o_, o_, o_, o_, o_, o_, o_], F_, R_ [o_, o_, o_, o_, o_, o_, o_], T_, R_ [o_, c_ (mkCall Tryz.call60 (F60_ok h20) [0, 1, 2, 3, 4, 5] (by kernel_rfl) (by kernel_rfl))]] [some 0, some 1, some 2, some 3, some 4, some 5, some 3] (pc zlt1 <| pc ((fun h => h : ((!(decide (a1 = 24))) = true → (!(decide (a1 = 24))) = true))) <| pc ((fun k2 => (not_t k2) : (decide (a1 = 24) = false → (!(decide (a1 = 24))) = true))) <| pc ((h1 : (decide (a1 = 24) || decide (a1 = 26)) = false)) <| pc ((fun h => h : (decide (a1 = 27) = true → decide (a1 = 27) = true))) <| pc ((fun k2 => k2 : (decide (a1 = 27) = true → decide (a1 = 27) = true))) <| pc ((h3 : (decide (a1 = 27) && decide (a0.state = 4)) = false)) <| pc ((fun h => h : (decide (a1 = 27) = true → decide (a1 = 27) = true))) <| pc ((fun k2 => k2 : (decide (a1 = 27) = true → decide (a1 = 27) = true))) <| pc ((h4 : (decide (a1 = 27) && decide (a0.state = 5)) = false)) <| pc ((h5 : decide (a1 = 27) = false)) <| pc ((h7 : decide (a0.state = 0) = false)) <| pc ((h9 : decide (a0.state = 1) = false)) <| pc ((h11 : decide (a0.state = 2) = false)) <| pc ((h13 : decide (a0.state = 3) = false)) <| pc ((h15 : decide (a0.state = 4) = false)) <| pc ((fun h => h : (decide (a0.state = 6) = true → decide (a0.state = 6) = true))) <| pc ((fun k2 => k2 : (decide (a0.state = 6) = true → decide (a0.state = 6) = true))) <| pc ((h17 : (decide (a0.state = 6) && decide (a1 = 92)) = false)) <| pc ((fun h => h : (decide (a0.state = 7) = true → decide (a0.state = 7) = true))) <| pc ((fun k2 => k2 : (decide (a0.state = 7) = true → decide (a0.state = 7) = true))) <| pc ((h19 : (decide (a0.state = 7) && decide (a1 = 92)) = true)) <| allP_nil) (by kernel_rfl) (by kernel_rfl)
                      · rcases of_ifb h with ⟨h21, h⟩ | ⟨h21, h⟩
                        · obtain ⟨r10, h22, h⟩ := of_bnd h
                          obtain ⟨r11, h23, h⟩ := of_bnd h
                          replace h := Option.some.inj h
                          subst h
                          exact WM.retE mixed (e_F40 a0 a1 (r11)) [R_ [o_, o_, o_, o_, o_], R_ [o_, o_, o_, o_, o_, o_, o_], F_, R_ [o_, o_, o_, o_, o_, o_, o_], F_, R_ [o_, o_, o_, o_, o_, o_, o_], F_, R_ [o_, o_, o_], F_, R_ [o_, o_, o_], F_, R_ [o_, o_, o_], F_, R_ [o_, o_, o_], F_, R_ [o_, o_, o_], F_, R_ [o_, o_, o_], F_, R_ [o_, o_, o_, o_, o_, o_, o_], F_, R_ [o_, o_, o_, o_, o_, o_, o_], F_, R_ [o_, o_, o_], T_, R_ [o_, c_ (mkCall Tryz.call60 (F60_ok h22) [0, 1, 2, 3, 4, 5] (by kernel_rfl) (by kernel_rfl))], R_ [o_, o_, c_ (mkCall Tryz.call62 (F62_ok h23) [0, 4, 5, 3, 6, 7, 8] (by kernel_rfl) (by kernel_rfl))]] [some 0, some 1, some 2, some 3, some 6, some 7, some 8] (pc zlt1 <| pc ((fun h => h : ((!(decide (a1 = 24))) = true → (!(decide (a1 = 24))) = true))) <| pc ((fun k2 => (not_t k2) : (decide (a1 = 24) = false → (!(decide (a1 = 24))) = true))) <| pc ((h1 : (decide (a1 = 24) || decide (a1 = 26)) = false)) <| pc ((fun h => h : (decide (a1 = 27) = true → decide (a1 = 27) = true))) <| pc ((fun k2 => k2 : (decide (a1 = 27) = true → decide (a1 = 27) = true))) <| pc ((h3 : (decide (a1 = 27) && decide (a0.state = 4)) = false)) <| pc ((fun h => h : (decide (a1 = 27) = true → decide (a1 = 27) = true))) <| pc ((fun k2 => k2 : (decide (a1 = 27) = true → decide (a1 = 27) = true))) <| pc ((h4 : (decide (a1 = 27) && decide (a0.state = 5)) = false)) <| pc ((h5 : decide (a1 = 27) = false)) <| pc ((h7 : decide (a0.state = 0) = false)) <| pc ((h9 : decide (a0.state = 1) = false)) <| pc ((h11 : decide (a0.state = 2) = false)) <| pc ((h13 : decide (a0.state = 3) = false)) <| pc ((h15 : decide (a0.state = 4) = false)) <| pc ((fun h => h : (decide (a0.state = 6) = true → decide (a0.state = 6) = true))) <| pc ((fun k2 => k2 : (decide (a0.state = 6) = true → decide (a0.state = 6) = true))) <| pc ((h17 : (decide (a0.state = 6) && decide (a1 = 92)) = false)) <| pc ((fun h => h : (decide (a0.state = 7) = true → decide (a0.state = 7) = true))) <| pc ((fun k2 => k2 : (decide (a0.state = 7) = true → decide (a0.state = 7) = true))) <| pc ((h19 : (decide (a0.state = 7) && decide (a1 = 92)) = false)) <| pc ((h21 : (!(decide (a0.state = 5))) = true)) <| allP_nil) (by kernel_rfl) (by kernel_rfl)
                        · replace h := Option.some.inj h
                          subst h
                          exact WM.retE mixed (e_F40 a0 a1 (a0)) [R_ [o_, o_, o_, o_, o_], R_ [o_, o_, o_, o_, o_, o_, o_], F_, R_ [o_, o_, o_, o_, o_, o_, o_], F_, R_ [o_, o_, o_, o_, o_, o_, o_], F_, R_ [o_, o_, o_], F_, R_ [o_, o_, o_], F_, R_ [o_, o_, o_], F_, R_ [o_, o_, o_], F_, R_ [o_, o_, o_], F_, R_ [o_, o_, o_], F_, R_ [o_, o_, o_, o_, o_, o_, o_], F_, R_ [o_, o_, o_, o_, o_, o_, o_], F_, R_ [o_, o_, o_], F_] [some 0, some 1, some 2, some 3, some 1, some 2, some 3] (pc zlt1 <| pc ((fun h => h : ((!(decide (a1 = 24))) = true → (!(decide (a1 = 24))) = true))) <| pc ((fun k2 => (not_t k2) : (decide (a1 = 24) = false → (!(decide (a1 = 24))) = true))) <| pc ((h1 : (decide (a1 = 24) || decide (a1 = 26)) = false)) <| pc ((fun h => h : (decide (a1 = 27) = true → decide (a1 = 27) = true))) <| pc ((fun k2 => k2 : (decide (a1 = 27) = true → decide (a1 = 27) = true))) <| pc ((h3 : (decide (a1 = 27) && decide (a0.state = 4)) = false)) <| pc ((fun h => h : (decide (a1 = 27) = true → decide (a1 = 27) = true))) <| pc ((fun k2 => k2 : (decide (a1 = 27) = true → decide (a1 = 27) = true))) <| pc ((h4 : (decide (a1 = 27) && decide (a0.state = 5)) = false)) <| pc ((h5 : decide (a1 = 27) = false)) <| pc ((h7 : decide (a0.state = 0) = false)) <| pc ((h9 : decide (a0.state = 1) = false)) <| pc ((h11 : decide (a0.state = 2) = false)) <| pc ((h13 : decide (a0.state = 3) = false)) <| pc ((h15 : decide (a0.state = 4) = false)) <| pc ((fun h => h : (decide (a0.state = 6) = true → decide (a0.state = 6) = true))) <| pc ((fun k2 => k2 : (decide (a0.state = 6) = true → decide (a0.state = 6) = true))) <| pc ((h17 : (decide (a0.state = 6) && decide (a1 = 92)) = false)) <| pc ((fun h => h : (decide (a0.state = 7) = true → decide (a0.state = 7) = true))) <| pc ((fun k2 => k2 : (decide (a0.state = 7) = true → decide (a0.state = 7) = true))) <| pc ((h19 : (decide (a0.state = 7) && decide (a1 = 92)) = false)) <| pc ((h21 : (!(decide (a0.state = 5))) = false)) <| allP_nil) (by kernel_rfl) (by kernel_rfl)

/-! ### F25: function 25 (*tickertape/esc.Parser).Feed -/
def F25_p1_b (f : Nat) (g1 : esc_ParserO → Int → Option (esc_ParserO × Nat × List esc_Event)) (a1_n : Nat) (a1 : List Int) (a0_1 : esc_ParserO) (x13_1 : Int) : Option (esc_ParserO × Nat × List esc_Event) :=
  ifb (decide (x13_1 < ((a1_n : Nat) : Int))) (
    chk (0 ≤ x13_1) <|
    chk (x13_1 < ((a1_n : Nat) : Int)) <|
    chk ((0 + x13_1.toNat) < a1.length) <|
    bnd (F40 f a0_1 (a1.getD (0 + x13_1.toNat) 0)) fun r1 =>
    chk (inR (x13_1 + 1)) <|
    g1 r1 (x13_1 + 1)) (
    some ((({ a0_1 with out_n := 0, out := [] } : esc_ParserO), a0_1.out_n, a0_1.out)))
def F25_p1 (f : Nat) (a1_n : Nat) (a1 : List Int) : Nat → esc_ParserO → Int → Option (esc_ParserO × Nat × List esc_Event)
  | 0, _, _ => none
  | j + 1, a0_1, x13_1 => F25_p1_b f (F25_p1 f a1_n a1 j) a1_n a1 a0_1 x13_1
def F25 (f : Nat) (a0 : esc_ParserO) (a1_n : Nat) (a1 : List Int) : Option (esc_ParserO × Nat × List esc_Event) :=
  F25_p1 f a1_n a1 f ({ a0 with out_n := 0, out := [] } : esc_ParserO) 0
def v_F25 (a0 : esc_ParserO) (a1_n : Nat) (a1 : List Int) (y : esc_ParserO × Nat × List esc_Event) : V :=
  .sl 8 0 y.2.1
def e_F25 (a0 : esc_ParserO) (a1_n : Nat) (a1 : List Int) (y : esc_ParserO × Nat × List esc_Event) : Env :=
  [(4, ⟨none, .sl 8 0 y.2.1⟩)]
def x_F25 (a0 : esc_ParserO) (a1_n : Nat) (a1 : List Int) (y : esc_ParserO × Nat × List esc_Event) : List (Option Blk) :=
  [some (B_esc_ParserO 5 6 7 y.1), none, none, none, some (intB .i32 a1), some (intB .i64 y.1.params), some (intB .i32 y.1.text), some (blk_esc_Event y.1.out), some (blk_esc_Event y.2.2)]
set_option maxRecDepth 100000 in
set_option maxHeartbeats 4000000 in
theorem F25_p1_bok {cx : Cx} {f : Nat} {I1 : Act → World → Prop} {g1 : esc_ParserO → Int → Option (esc_ParserO × Nat × List esc_Event)} {a0 : esc_ParserO} {a1_n : Nat} {a1 : List Int} {a0_1 : esc_ParserO} {x13_1 : Int} {y : esc_ParserO × Nat × List esc_Event} (hg1 : ∀ (a0_1 : esc_ParserO) (x13_1 : Int), g1 a0_1 x13_1 = some y → ∀ a w, cx.In G0 29 5 [(0, ⟨none, .p 0 0 0⟩), (11, ⟨none, .sl 4 0 a1_n⟩), (12, ⟨none, .i .i64 ((a1_n : Nat) : Int)⟩), (13, ⟨none, .i .i64 x13_1⟩)] [some (B_esc_ParserO 5 6 7 a0_1), none, none, none, some (intB .i32 a1), some (intB .i64 a0_1.params), some (intB .i32 a0_1.text), some (blk_esc_Event a0_1.out)] a w → I1 a w) (h : F25_p1_b f g1 a1_n a1 a0_1 x13_1 = some y) :
    WM Tryz.prog G0 29 5 Tryz.f25.results.toList (v_F25 a0 a1_n a1 y) (x_F25 a0 a1_n a1 y) cx (nav [.r, .r, .r, .l I1] [.code (bodyOf Tryz.f25)]) [(0, ⟨none, .p 0 0 0⟩), (11, ⟨none, .sl 4 0 a1_n⟩), (12, ⟨none, .i .i64 ((a1_n : Nat) : Int)⟩), (13, ⟨none, .i .i64 x13_1⟩)] [some (B_esc_ParserO 5 6 7 a0_1), none, none, none, some (intB .i32 a1), some (intB .i64 a0_1.params), some (intB .i32 a0_1.text), some (blk_esc_Event a0_1.out)] := by
  unfold F25_p1_b at h
  rcases of_ifb h with ⟨h1, h⟩ | ⟨h1, h⟩
  · obtain ⟨h2, h⟩ := of_chk h
    obtain ⟨h3, h⟩ := of_chk h
    obtain ⟨h4, h⟩ := of_chk h
    obtain ⟨r1, h5, h⟩ := of_bnd h
    obtain ⟨h6, h⟩ := of_chk h
    exact WM.cut mixed [R_ [o_], T_, R_ [o_, o_, o_], R_ [o_, o_, c_ (mkCall Tryz.call40 (F40_ok h5) [0, 5, 6, 7, 8, 9, 10] (by kernel_rfl) (by kernel_rfl))], R_ [o_, o_]] [some 0, some 1, some 2, some 3, some 4, some 8, some 9, some 10] (pc ((h1 : decide (x13_1 < ((a1_n : Nat) : Int)) = true)) <| pc h2 <| pc h3 <| pc h4 <| pc h6 <| allP_nil) (WM.again (k := (nav [.r, .r, .r, .n] [.code (bodyOf Tryz.f25)]).tail) (hg1 _ _ h)) (by kernel_rfl)
  · replace h := Option.some.inj h
    subst h
    exact WM.retE mixed (e_F25 a0 a1_n a1 ((({ a0_1 with out_n := 0, out := [] } : esc_ParserO), a0_1.out_n, a0_1.out))) [R_ [o_], F_, R_ [o_, o_, o_, o_, o_], R_ [o_, o_, o_, o_], R_ [o_, o_]] [some 0, some 1, some 2, some 3, some 4, some 5, some 6, none, some 7] (pc ((h1 : decide (x13_1 < ((a1_n : Nat) : Int)) = false)) <| pc zlt1 <| pc zlt1 <| allP_nil) (by kernel_rfl) (by kernel_rfl)
set_option maxRecDepth 100000 in
set_option maxHeartbeats 4000000 in
theorem F25_p1_ok {cx : Cx} {f : Nat} {a0 : esc_ParserO} {a1_n : Nat} {a1 : List Int} {a0_1 : esc_ParserO} {x13_1 : Int} {j : Nat} {y : esc_ParserO × Nat × List esc_Event} (h : F25_p1 f a1_n a1 j a0_1 x13_1 = some y) :
    WM Tryz.prog G0 29 5 Tryz.f25.results.toList (v_F25 a0 a1_n a1 y) (x_F25 a0 a1_n a1 y) cx (nav [.r, .r, .r, .n] [.code (bodyOf Tryz.f25)]) [(0, ⟨none, .p 0 0 0⟩), (11, ⟨none, .sl 4 0 a1_n⟩), (12, ⟨none, .i .i64 ((a1_n : Nat) : Int)⟩), (13, ⟨none, .i .i64 x13_1⟩)] [some (B_esc_ParserO 5 6 7 a0_1), none, none, none, some (intB .i32 a1), some (intB .i64 a0_1.params), some (intB .i32 a0_1.text), some (blk_esc_Event a0_1.out)] := by
  refine WM.loopN (X := esc_ParserO × Int) (y := y) (kb := fun I1 => (nav [.r, .r, .r, .l I1] [.code (bodyOf Tryz.f25)])) (by intro I; kernel_rfl) (fun j x => F25_p1 f a1_n a1 j x.1 x.2) (fun x => [(0, ⟨none, .p 0 0 0⟩), (11, ⟨none, .sl 4 0 a1_n⟩), (12, ⟨none, .i .i64 ((a1_n : Nat) : Int)⟩), (13, ⟨none, .i .i64 x.2⟩)]) (fun x => [some (B_esc_ParserO 5 6 7 x.1), none, none, none, some (intB .i32 a1), some (intB .i64 x.1.params), some (intB .i32 x.1.text), some (blk_esc_Event x.1.out)]) ?_ (j := j) (x := (a0_1, x13_1)) h
  intro j x I1 h hI
  cases j with
  | zero => cases h
  | succ j => exact F25_p1_bok (fun x0 x1 => hI j (x0, x1) (Nat.lt_succ_self j)) h
set_option maxRecDepth 100000 in
set_option maxHeartbeats 4000000 in
theorem F25_ok {f : Nat} {a0 : esc_ParserO} {a1_n : Nat} {a1 : List Int} {y : esc_ParserO × Nat × List esc_Event} (h : F25 f a0 a1_n a1 = some y) :
    Spec Tryz.prog G0 25 [.p 0 0 0, .sl 4 0 a1_n] [some (B_esc_ParserO 1 2 3 a0), some (intB .i64 a0.params), some (intB .i32 a0.text), some (blk_esc_Event a0.out), some (intB .i32 a1)] (v_F25 a0 a1_n a1 y) (x_F25 a0 a1_n a1 y) :=
  Spec.ofM (fn := Tryz.f25) (c := bodyOf Tryz.f25) (n := 29) (rs := Tryz.f25.results.toList) Tryz.func25 (by kernel_rfl) (by kernel_rfl) (by kernel_rfl) (by kernel_rfl) fun cx => by
  unfold F25 at h
  exact WM.cut mixed [R_ [o_], R_ [o_, o_, o_, o_], R_ [o_, o_, o_]] [some 0, some 1, some 2, some 3, some 4, some 1, some 2, none] (pc zlt1 <| allP_nil) (F25_p1_ok h) (by kernel_rfl)

/-! ### F99: function 99 tickertape/cell.among -/
def F99_p1_b (f : Nat) (g1 : Int → Option (Bool)) (a1 : List cell_span) (a0 : Int) (x9_1 : Int) : Option (Bool) :=
  ifb (decide (x9_1 < ((a1.length : Nat) : Int))) (
    chk (0 ≤ x9_1) <|
    chk (x9_1 < ((a1.length : Nat) : Int)) <|
    chk (x9_1.toNat < a1.length) <|
    ifb ((decide (a0 ≥ (a1.getD x9_1.toNat zero_cell_span).from_) && decide (a0 ≤ (a1.getD x9_1.toNat zero_cell_span).to_))) (
      some (true)) (
      chk (inR (x9_1 + 1)) <|
      g1 (x9_1 + 1))) (
    some (false))
def F99_p1 (f : Nat) (a1 : List cell_span) (a0 : Int) : Nat → Int → Option (Bool)
  | 0, _ => none
  | j + 1, x9_1 => F99_p1_b f (F99_p1 f a1 a0 j) a1 a0 x9_1
def F99 (f : Nat) (a0 : Int) (a1 : List cell_span) : Option (Bool) :=
  F99_p1 f a1 a0 f 0
def v_F99 (a0 : Int) (a1 : List cell_span) (y : Bool) : V :=
  .b y
def e_F99 (a0 : Int) (a1 : List cell_span) (y : Bool) : Env :=
  [(4, ⟨none, .b y⟩)]
def x_F99 (a0 : Int) (a1 : List cell_span) (y : Bool) : List (Option Blk) :=
  []
set_option maxRecDepth 100000 in
set_option maxHeartbeats 4000000 in
theorem F99_p1_bok {cx : Cx} {f : Nat} {I1 : Act → World → Prop} {g1 : Int → Option (Bool)} {a0 : Int} {a1 : List cell_span} {x9_1 : Int} {y : Bool} (hg1 : ∀ (x9_1 : Int), g1 x9_1 = some y → ∀ a w, cx.In G0 24 0 [(0, ⟨none, .i .i32 a0⟩), (7, ⟨none, .ro cell_span 2 enc_cell_span zero_cell_span a1⟩), (8, ⟨none, .i .i64 ((a1.length : Nat) : Int)⟩), (9, ⟨none, .i .i64 x9_1⟩)] [] a w → I1 a w) (h : F99_p1_b f g1 a1 a0 x9_1 = some y) :
    WM Tryz.prog G0 24 0 Tryz.f99.results.toList (v_F99 a0 a1 y) (x_F99 a0 a1 y) cx (nav [.r, .r, .l I1] [.code (bodyOf Tryz.f99)]) [(0, ⟨none, .i .i32 a0⟩), (7, ⟨none, .ro cell_span 2 enc_cell_span zero_cell_span a1⟩), (8, ⟨none, .i .i64 ((a1.length : Nat) : Int)⟩), (9, ⟨none, .i .i64 x9_1⟩)] [] := by
  unfold F99_p1_b at h
  rcases of_ifb h with ⟨h1, h⟩ | ⟨h1, h⟩
  · obtain ⟨h2, h⟩ := of_chk h
    obtain ⟨h3, h⟩ := of_chk h
    obtain ⟨h4, h⟩ := of_chk h
    rcases of_ifb h with ⟨h5, h⟩ | ⟨h5, h⟩
    · replace h := Option.some.inj h
      subst h
      exact WM.retE mixed (e_F99 a0 a1 (true)) [R_ [o_], T_, R_ [o_, o_, .op (.fresh 0 (svB 2 [.i .i32 0, .i .i32 0])), o_], R_ [o_, o_, o_, o_, o_, o_, o_, o_, o_, o_], T_, R_ [o_]] [] (pc ((h1 : decide (x9_1 < ((a1.length : Nat) : Int)) = true)) <| pc h2 <| pc h3 <| pc h4 <| pc zlt1 <| pc zlt1 <| pc ((fun h => h : (decide (a0 ≥ (a1.getD x9_1.toNat zero_cell_span).from_) = true → decide (a0 ≥ (a1.getD x9_1.toNat zero_cell_span).from_) = true))) <| pc ((fun _ => zlt1 : (decide (a0 ≥ (a1.getD x9_1.toNat zero_cell_span).from_) = true → 0 < 1))) <| pc ((fun h => h : (decide (a0 ≥ (a1.getD x9_1.toNat zero_cell_span).from_) = true → decide (a0 ≥ (a1.getD x9_1.toNat zero_cell_span).from_) = true))) <| pc ((fun h => h : (decide (a0 ≥ (a1.getD x9_1.toNat zero_cell_span).from_) = true → decide (a0 ≥ (a1.getD x9_1.toNat zero_cell_span).from_) = true))) <| pc ((fun k2 => k2 : (decide (a0 ≥ (a1.getD x9_1.toNat zero_cell_span).from_) = true → decide (a0 ≥ (a1.getD x9_1.toNat zero_cell_span).from_) = true))) <| pc ((h5 : (decide (a0 ≥ (a1.getD x9_1.toNat zero_cell_span).from_) && decide (a0 ≤ (a1.getD x9_1.toNat zero_cell_span).to_)) = true)) <| allP_nil) (by kernel_rfl) (by kernel_rfl)
    · obtain ⟨h6, h⟩ := of_chk h
      exact WM.cut mixed [R_ [o_], T_, R_ [o_, o_, .op (.fresh 0 (svB 2 [.i .i32 0, .i .i32 0])), o_], R_ [o_, o_, o_, o_, o_, o_, o_, o_, o_, o_], F_, R_ [o_, o_]] [] (pc ((h1 : decide (x9_1 < ((a1.length : Nat) : Int)) = true)) <| pc h2 <| pc h3 <| pc h4 <| pc zlt1 <| pc zlt1 <| pc ((fun h => h : (decide (a0 ≥ (a1.getD x9_1.toNat zero_cell_span).from_) = true → decide (a0 ≥ (a1.getD x9_1.toNat zero_cell_span).from_) = true))) <| pc ((fun _ => zlt1 : (decide (a0 ≥ (a1.getD x9_1.toNat zero_cell_span).from_) = true → 0 < 1))) <| pc ((fun h => h : (decide (a0 ≥ (a1.getD x9_1.toNat zero_cell_span).from_) = true → decide (a0 ≥ (a1.getD x9_1.toNat zero_cell_span).from_) = true))) <| pc ((fun h => h : (decide (a0 ≥ (a1.getD x9_1.toNat zero_cell_span).from_) = true → decide (a0 ≥ (a1.getD x9_1.toNat zero_cell_span).from_) = true))) <| pc ((fun k2 => k2 : (decide (a0 ≥ (a1.getD x9_1.toNat zero_cell_span).from_) = true → decide (a0 ≥ (a1.getD x9_1.toNat zero_cell_span).from_) = true))) <| pc ((h5 : (decide (a0 ≥ (a1.getD x9_1.toNat zero_cell_span).from_) && decide (a0 ≤ (a1.getD x9_1.toNat zero_cell_span).to_)) = false)) <| pc h6 <| allP_nil) (WM.again (k := (nav [.r, .r, .n] [.code (bodyOf Tryz.f99)]).tail) (hg1 _ h)) (by kernel_rfl)
  · replace h := Option.some.inj h
    subst h
    exact WM.retE mixed (e_F99 a0 a1 (false)) [R_ [o_], F_, R_ [o_]] [] (pc ((h1 : decide (x9_1 < ((a1.length : Nat) : Int)) = false)) <| allP_nil) (by kernel_rfl) (by kernel_rfl)
set_option maxRecDepth 100000 in
set_option maxHeartbeats 4000000 in
theorem F99_p1_ok {cx : Cx} {f : Nat} {a0 : Int} {a1 : List cell_span} {x9_1 : Int} {j : Nat} {y : Bool} (h : F99_p1 f a1 a0 j x9_1 = some y) :
    WM Tryz.prog G0 24 0 Tryz.f99.results.toList (v_F99 a0 a1 y) (x_F99 a0 a1 y) cx (nav [.r, .r, .n] [.code (bodyOf Tryz.f99)]) [(0, ⟨none, .i .i32 a0⟩), (7, ⟨none, .ro cell_span 2 enc_cell_span zero_cell_span a1⟩), (8, ⟨none, .i .i64 ((a1.length : Nat) : Int)⟩), (9, ⟨none, .i .i64 x9_1⟩)] [] := by
  refine WM.loopN (X := Int) (y := y) (kb := fun I1 => (nav [.r, .r, .l I1] [.code (bodyOf Tryz.f99)])) (by intro I; kernel_rfl) (fun j x => F99_p1 f a1 a0 j x) (fun x => [(0, ⟨none, .i .i32 a0⟩), (7, ⟨none, .ro cell_span 2 enc_cell_span zero_cell_span a1⟩), (8, ⟨none, .i .i64 ((a1.length : Nat) : Int)⟩), (9, ⟨none, .i .i64 x⟩)]) (fun x => []) ?_ (j := j) (x := x9_1) h
  intro j x I1 h hI
  cases j with
  | zero => cases h
  | succ j => exact F99_p1_bok (fun x0 => hI j x0 (Nat.lt_succ_self j)) h
set_option maxRecDepth 100000 in
set_option maxHeartbeats 4000000 in
theorem F99_ok {f : Nat} {a0 : Int} {a1 : List cell_span} {y : Bool} (h : F99 f a0 a1 = some y) :
    Spec Tryz.prog G0 99 [.i .i32 a0, .ro cell_span 2 enc_cell_span zero_cell_span a1] [] (v_F99 a0 a1 y) (x_F99 a0 a1 y) :=
  Spec.ofM (fn := Tryz.f99) (c := bodyOf Tryz.f99) (n := 24) (rs := Tryz.f99.results.toList) Tryz.func99 (by kernel_rfl) (by kernel_rfl) (by kernel_rfl) (by kernel_rfl) fun cx => by
  unfold F99 at h
  exact WM.cut mixed [R_ [o_], R_ [o_, o_, o_]] [] (allP_nil) (F99_p1_ok h) (by kernel_rfl)

/-! ### F70: function 70 tickertape/cell.Width -/
def F70 (f : Nat) (a0 : Int) : Option (Int) :=
  ifb ((!(decide (a0 < 0) || decide (a0 > 1114111)))) (
    bnd (F99 f a0 g_none) fun r1 =>
    ifb (r1) (
      some (0)) (
      bnd (F99 f a0 g_wide) fun r2 =>
      ifb (r2) (
        some (2)) (
        some (1)))) (
    some (0))
def v_F70 (a0 : Int) (y : Int) : V :=
  .i .i64 y
def e_F70 (a0 : Int) (y : Int) : Env :=
  [(2, ⟨none, .i .i64 y⟩)]
def x_F70 (a0 : Int) (y : Int) : List (Option Blk) :=
  []
set_option maxRecDepth 100000 in
set_option maxHeartbeats 4000000 in
theorem F70_ok {f : Nat} {a0 : Int} {y : Int} (h : F70 f a0 = some y) :
    Spec Tryz.prog G0 70 [.i .i32 a0] [] (v_F70 a0 y) (x_F70 a0 y) :=
  Spec.ofM (fn := Tryz.f70) (c := bodyOf Tryz.f70) (n := 19) (rs := Tryz.f70.results.toList) Tryz.func70 (by kernel_rfl) (by kernel_rfl) (by kernel_rfl) (by kernel_rfl) fun cx => by
  unfold F70 at h
  rcases of_ifb h with ⟨h1, h⟩ | ⟨h1, h⟩
  · obtain ⟨r1, h2, h⟩ := of_bnd h
    rcases of_ifb h with ⟨h3, h⟩ | ⟨h3, h⟩
    · replace h := Option.some.inj h
      subst h
      exact WM.retE mixed (e_F70 a0 (0)) [R_ [o_], R_ [o_, o_, o_, o_, o_, o_, o_, o_, o_, c_ (mkCall Tryz.call99 (F99_ok h2) [] (by kernel_rfl) (by kernel_rfl)), .pk false, o_], T_, R_ [o_]] [] (pc ((fun h => h : ((!(decide (a0 < 0))) = true → (!(decide (a0 < 0))) = true))) <| pc ((fun k2 => (not_t k2) : (decide (a0 < 0) = false → (!(decide (a0 < 0))) = true))) <| pc ((h1 : (!(decide (a0 < 0) || decide (a0 > 1114111))) = true)) <| pc ((h1 : (!(decide (a0 < 0) || decide (a0 > 1114111))) = true)) <| pc ((h1 : (!(decide (a0 < 0) || decide (a0 > 1114111))) = true)) <| pc (((nt_of h1) : (decide (a0 < 0) || decide (a0 > 1114111)) = false)) <| pc ((h3 : r1 = true)) <| allP_nil) (by kernel_rfl) (by kernel_rfl)
    · obtain ⟨r2, h4, h⟩ := of_bnd h
      rcases of_ifb h with ⟨h5, h⟩ | ⟨h5, h⟩
      · replace h := Option.some.inj h
        subst h
        exact WM.retE mixed (e_F70 a0 (2)) [R_ [o_], R_ [o_, o_, o_, o_, o_, o_, o_, o_, o_, c_ (mkCall Tryz.call99 (F99_ok h2) [] (by kernel_rfl) (by kernel_rfl)), .pk false, o_], F_, R_ [o_, o_, c_ (mkCall Tryz.call99 (F99_ok h4) [] (by kernel_rfl) (by kernel_rfl)), o_], T_, R_ [o_]] [] (pc ((fun h => h : ((!(decide (a0 < 0))) = true → (!(decide (a0 < 0))) = true))) <| pc ((fun k2 => (not_t k2) : (decide (a0 < 0) = false → (!(decide (a0 < 0))) = true))) <| pc ((h1 : (!(decide (a0 < 0) || decide (a0 > 1114111))) = true)) <| pc ((h1 : (!(decide (a0 < 0) || decide (a0 > 1114111))) = true)) <| pc ((h1 : (!(decide (a0 < 0) || decide (a0 > 1114111))) = true)) <| pc (((nt_of h1) : (decide (a0 < 0) || decide (a0 > 1114111)) = false)) <| pc ((h3 : r1 = false)) <| pc ((h5 : r2 = true)) <| allP_nil) (by kernel_rfl) (by kernel_rfl)
      · replace h := Option.some.inj h
        subst h
        exact WM.retE mixed (e_F70 a0 (1)) [R_ [o_], R_ [o_, o_, o_, o_, o_, o_, o_, o_, o_, c_ (mkCall Tryz.call99 (F99_ok h2) [] (by kernel_rfl) (by kernel_rfl)), .pk false, o_], F_, R_ [o_, o_, c_ (mkCall Tryz.call99 (F99_ok h4) [] (by kernel_rfl) (by kernel_rfl)), o_], F_, R_ [o_]] [] (pc ((fun h => h : ((!(decide (a0 < 0))) = true → (!(decide (a0 < 0))) = true))) <| pc ((fun k2 => (not_t k2) : (decide (a0 < 0) = false → (!(decide (a0 < 0))) = true))) <| pc ((h1 : (!(decide (a0 < 0) || decide (a0 > 1114111))) = true)) <| pc ((h1 : (!(decide (a0 < 0) || decide (a0 > 1114111))) = true)) <| pc ((h1 : (!(decide (a0 < 0) || decide (a0 > 1114111))) = true)) <| pc (((nt_of h1) : (decide (a0 < 0) || decide (a0 > 1114111)) = false)) <| pc ((h3 : r1 = false)) <| pc ((h5 : r2 = false)) <| allP_nil) (by kernel_rfl) (by kernel_rfl)
  · replace h := Option.some.inj h
    subst h
    exact WM.retE mixed (e_F70 a0 (0)) [R_ [o_], R_ [o_, o_, o_, o_, o_, o_, o_, o_, o_, s_, .pk true, o_], T_, R_ [o_]] [] (pc ((fun h => h : ((!(decide (a0 < 0))) = true → (!(decide (a0 < 0))) = true))) <| pc ((fun k2 => (not_t k2) : (decide (a0 < 0) = false → (!(decide (a0 < 0))) = true))) <| pc ((h1 : (!(decide (a0 < 0) || decide (a0 > 1114111))) = false)) <| pc (((nf_of h1) : (decide (a0 < 0) || decide (a0 > 1114111)) = true)) <| pc ((rfl : true = true)) <| allP_nil) (by kernel_rfl) (by kernel_rfl)

/-! ### F28: function 28 (*tickertape/term.Term).grid -/
def F28 (f : Nat) (a0 : term_TermO_2) : Option ((Unit) ⊕ (Unit)) :=
  ifb (decide (a0.shown = 0)) (
    some (.inl (()))) (
    ifb (decide (a0.shown = 1)) (
      some (.inr (()))) (
      none))
def v_F28 (a0 : term_TermO_2) (y : (Unit) ⊕ (Unit)) : V :=
  match y with
  | .inl (y) => .p 1 0 0
  | .inr (y) => .p 3 0 0
def e_F28 (a0 : term_TermO_2) (y : (Unit) ⊕ (Unit)) : Env :=
  match y with
  | .inl (y) => [(2, ⟨none, .p 1 0 0⟩)]
  | .inr (y) => [(2, ⟨none, .p 3 0 0⟩)]
def x_F28 (a0 : term_TermO_2) (y : (Unit) ⊕ (Unit)) : List (Option Blk) :=
  match y with
  | .inl (y) => [some (B_term_TermO_2 1 3 5 7 9 13 a0), some (B_grid_GridO 2 a0.grids_0), some (blk_cell_Cell a0.grids_0.l), some (B_grid_GridO 4 a0.grids_1), some (blk_cell_Cell a0.grids_1.l), some (B_tabs_StopsO_1 6 a0.stops), some (boolB a0.stops.at_), some (B_utf_DecoderO 8 a0.signs), some (intB .u8 a0.signs.b), some (B_esc_ParserO 10 11 12 a0.asks), some (intB .i64 a0.asks.params), some (intB .i32 a0.asks.text), some (blk_esc_Event a0.asks.out), some (intB .u8 a0.reply)]
  | .inr (y) => [some (B_term_TermO_2 1 3 5 7 9 13 a0), some (B_grid_GridO 2 a0.grids_0), some (blk_cell_Cell a0.grids_0.l), some (B_grid_GridO 4 a0.grids_1), some (blk_cell_Cell a0.grids_1.l), some (B_tabs_StopsO_1 6 a0.stops), some (boolB a0.stops.at_), some (B_utf_DecoderO 8 a0.signs), some (intB .u8 a0.signs.b), some (B_esc_ParserO 10 11 12 a0.asks), some (intB .i64 a0.asks.params), some (intB .i32 a0.asks.text), some (blk_esc_Event a0.asks.out), some (intB .u8 a0.reply)]
set_option maxRecDepth 100000 in
set_option maxHeartbeats 4000000 in
theorem F28_ok {f : Nat} {a0 : term_TermO_2} {y : (Unit) ⊕ (Unit)} (h : F28 f a0 = some y) :
    Spec Tryz.prog G0 28 [.p 0 0 0] [some (B_term_TermO_2 1 3 5 7 9 13 a0), some (B_grid_GridO 2 a0.grids_0), some (blk_cell_Cell a0.grids_0.l), some (B_grid_GridO 4 a0.grids_1), some (blk_cell_Cell a0.grids_1.l), some (B_tabs_StopsO_1 6 a0.stops), some (boolB a0.stops.at_), some (B_utf_DecoderO 8 a0.signs), some (intB .u8 a0.signs.b), some (B_esc_ParserO 10 11 12 a0.asks), some (intB .i64 a0.asks.params), some (intB .i32 a0.asks.text), some (blk_esc_Event a0.asks.out), some (intB .u8 a0.reply)] (v_F28 a0 y) (x_F28 a0 y) :=
  Spec.ofM (fn := Tryz.f28) (c := bodyOf Tryz.f28) (n := 14) (rs := Tryz.f28.results.toList) Tryz.func28 (by kernel_rfl) (by kernel_rfl) (by kernel_rfl) (by kernel_rfl) fun cx => by
  unfold F28 at h
  rcases of_ifb h with ⟨h1, h⟩ | ⟨h1, h⟩
  · replace h := Option.some.inj h
    subst h
    exact WM.retE mixed (e_F28 a0 (.inl (()))) [R_ [o_], R_ [o_, o_, o_, o_, o_, o_, o_, o_, o_, .ix 0, o_, o_]] [some 0, some 1, some 2, some 3, some 4, some 5, some 6, some 7, some 8, some 9, some 10, some 11, some 12, some 13] (pc zlt1 <| pc ((of_decide_eq_true h1 : a0.shown = 0)) <| pc ((by decide : (0 : Int) ≤ 0)) <| pc ((by decide : (0 : Int) < 2)) <| pc zlt1 <| allP_nil) (by kernel_rfl) (by kernel_rfl)
  · rcases of_ifb h with ⟨h2, h⟩ | ⟨h2, h⟩
    · replace h := Option.some.inj h
      subst h
      exact WM.retE mixed (e_F28 a0 (.inr (()))) [R_ [o_], R_ [o_, o_, o_, o_, o_, o_, o_, o_, o_, .ix 1, o_, o_]] [some 0, some 1, some 2, some 3, some 4, some 5, some 6, some 7, some 8, some 9, some 10, some 11, some 12, some 13] (pc zlt1 <| pc ((of_decide_eq_true h2 : a0.shown = 1)) <| pc ((by decide : (0 : Int) ≤ 1)) <| pc ((by decide : (1 : Int) < 2)) <| pc zlt1 <| allP_nil) (by kernel_rfl) (by kernel_rfl)
    · cases h

/-! ### F100: function 100 (*tickertape/grid.Grid).is -/
def F100 (f : Nat) (a0 : grid_GridO) (a1 : Int) (a2 : Int) : Option (Bool) :=
  some ((((decide (a1 ≥ 0) && decide (a1 < a0.rows)) && decide (a2 ≥ 0)) && decide (a2 < a0.cols)))
def v_F100 (a0 : grid_GridO) (a1 : Int) (a2 : Int) (y : Bool) : V :=
  .b y
def e_F100 (a0 : grid_GridO) (a1 : Int) (a2 : Int) (y : Bool) : Env :=
  [(6, ⟨none, .b y⟩)]
def x_F100 (a0 : grid_GridO) (a1 : Int) (a2 : Int) (y : Bool) : List (Option Blk) :=
  [some (B_grid_GridO 1 a0), some (blk_cell_Cell a0.l)]
set_option maxRecDepth 100000 in
set_option maxHeartbeats 4000000 in
theorem F100_ok {f : Nat} {a0 : grid_GridO} {a1 : Int} {a2 : Int} {y : Bool} (h : F100 f a0 a1 a2 = some y) :
    Spec Tryz.prog G0 100 [.p 0 0 0, .i .i64 a1, .i .i64 a2] [some (B_grid_GridO 1 a0), some (blk_cell_Cell a0.l)] (v_F100 a0 a1 a2 y) (x_F100 a0 a1 a2 y) :=
  Spec.ofM (fn := Tryz.f100) (c := bodyOf Tryz.f100) (n := 29) (rs := Tryz.f100.results.toList) Tryz.func100 (by kernel_rfl) (by kernel_rfl) (by kernel_rfl) (by kernel_rfl) fun cx => by
  unfold F100 at h
  replace h := Option.some.inj h
  subst h
  exact WM.retE mixed (e_F100 a0 a1 a2 ((((decide (a1 ≥ 0) && decide (a1 < a0.rows)) && decide (a2 ≥ 0)) && decide (a2 < a0.cols)))) [R_ [o_], R_ [o_, o_, o_, o_, o_, o_, o_, o_, o_, o_, o_, o_, o_, o_, o_, o_, o_, o_, o_, o_, o_, o_, o_]] [some 0, some 1] (pc ((fun h => h : (decide (a1 ≥ 0) = true → decide (a1 ≥ 0) = true))) <| pc ((fun h => h : (decide (a1 ≥ 0) = true → decide (a1 ≥ 0) = true))) <| pc ((fun h => h : (decide (a1 ≥ 0) = true → decide (a1 ≥ 0) = true))) <| pc ((fun _ => zlt1 : (decide (a1 ≥ 0) = true → 0 < 1))) <| pc ((fun h => h : (decide (a1 ≥ 0) = true → decide (a1 ≥ 0) = true))) <| pc ((fun h => h : (decide (a1 ≥ 0) = true → decide (a1 ≥ 0) = true))) <| pc ((fun k2 => k2 : (decide (a1 ≥ 0) = true → decide (a1 ≥ 0) = true))) <| pc ((fun h => h : ((decide (a1 ≥ 0) && decide (a1 < a0.rows)) = true → (decide (a1 ≥ 0) && decide (a1 < a0.rows)) = true))) <| pc ((fun k2 => k2 : ((decide (a1 ≥ 0) && decide (a1 < a0.rows)) = true → (decide (a1 ≥ 0) && decide (a1 < a0.rows)) = true))) <| pc ((fun h => h : (((decide (a1 ≥ 0) && decide (a1 < a0.rows)) && decide (a2 ≥ 0)) = true → ((decide (a1 ≥ 0) && decide (a1 < a0.rows)) && decide (a2 ≥ 0)) = true))) <| pc ((fun h => h : (((decide (a1 ≥ 0) && decide (a1 < a0.rows)) && decide (a2 ≥ 0)) = true → ((decide (a1 ≥ 0) && decide (a1 < a0.rows)) && decide (a2 ≥ 0)) = true))) <| pc ((fun h => h : (((decide (a1 ≥ 0) && decide (a1 < a0.rows)) && decide (a2 ≥ 0)) = true → ((decide (a1 ≥ 0) && decide (a1 < a0.rows)) && decide (a2 ≥ 0)) = true))) <| pc ((fun _ => zlt1 : (((decide (a1 ≥ 0) && decide (a1 < a0.rows)) && decide (a2 ≥ 0)) = true → 0 < 1))) <| pc ((fun h => h : (((decide (a1 ≥ 0) && decide (a1 < a0.rows)) && decide (a2 ≥ 0)) = true → ((decide (a1 ≥ 0) && decide (a1 < a0.rows)) && decide (a2 ≥ 0)) = true))) <| pc ((fun h => h : (((decide (a1 ≥ 0) && decide (a1 < a0.rows)) && decide (a2 ≥ 0)) = true → ((decide (a1 ≥ 0) && decide (a1 < a0.rows)) && decide (a2 ≥ 0)) = true))) <| pc ((fun k2 => k2 : (((decide (a1 ≥ 0) && decide (a1 < a0.rows)) && decide (a2 ≥ 0)) = true → ((decide (a1 ≥ 0) && decide (a1 < a0.rows)) && decide (a2 ≥ 0)) = true))) <| allP_nil) (by kernel_rfl) (by kernel_rfl)

/-! ### F123: function 123 tickertape/cell.colour -/
def F123 (f : Nat) (a0 : Int) : Option (Bool) :=
  some (((decide (a0 ≥ 0) && decide (a0 ≤ 256)) || (decide (a0 ≥ 16777216) && decide (a0 < 33554432))))
def v_F123 (a0 : Int) (y : Bool) : V :=
  .b y
def e_F123 (a0 : Int) (y : Bool) : Env :=
  [(2, ⟨none, .b y⟩)]
def x_F123 (a0 : Int) (y : Bool) : List (Option Blk) :=
  []
set_option maxRecDepth 100000 in
set_option maxHeartbeats 4000000 in
theorem F123_ok {f : Nat} {a0 : Int} {y : Bool} (h : F123 f a0 = some y) :
    Spec Tryz.prog G0 123 [.i .i64 a0] [] (v_F123 a0 y) (x_F123 a0 y) :=
  Spec.ofM (fn := Tryz.f123) (c := bodyOf Tryz.f123) (n := 17) (rs := Tryz.f123.results.toList) Tryz.func123 (by kernel_rfl) (by kernel_rfl) (by kernel_rfl) (by kernel_rfl) fun cx => by
  unfold F123 at h
  replace h := Option.some.inj h
  subst h
  exact WM.retE mixed (e_F123 a0 (((decide (a0 ≥ 0) && decide (a0 ≤ 256)) || (decide (a0 ≥ 16777216) && decide (a0 < 33554432))))) [R_ [o_], R_ [o_, o_, o_, o_, o_, o_, o_, o_, o_, o_, o_, o_, o_, o_, o_]] [] (pc ((fun h => h : (decide (a0 ≥ 0) = true → decide (a0 ≥ 0) = true))) <| pc ((fun k2 => k2 : (decide (a0 ≥ 0) = true → decide (a0 ≥ 0) = true))) <| pc ((fun h => h : ((!(decide (a0 ≥ 0) && decide (a0 ≤ 256))) = true → (!(decide (a0 ≥ 0) && decide (a0 ≤ 256))) = true))) <| pc ((fun h => h : ((!(decide (a0 ≥ 0) && decide (a0 ≤ 256))) = true → (!(decide (a0 ≥ 0) && decide (a0 ≤ 256))) = true))) <| pc ((fun h => h : (((!(decide (a0 ≥ 0) && decide (a0 ≤ 256))) && decide (a0 ≥ 16777216)) = true → ((!(decide (a0 ≥ 0) && decide (a0 ≤ 256))) && decide (a0 ≥ 16777216)) = true))) <| pc ((fun h => h : ((!(decide (a0 ≥ 0) && decide (a0 ≤ 256))) = true → (!(decide (a0 ≥ 0) && decide (a0 ≤ 256))) = true))) <| pc ((fun k1 k2 => (and_t k1 k2) : ((!(decide (a0 ≥ 0) && decide (a0 ≤ 256))) = true → (decide (a0 ≥ 16777216) = true → ((!(decide (a0 ≥ 0) && decide (a0 ≤ 256))) && decide (a0 ≥ 16777216)) = true)))) <| pc ((fun k2 => (not_t k2) : ((decide (a0 ≥ 0) && decide (a0 ≤ 256)) = false → (!(decide (a0 ≥ 0) && decide (a0 ≤ 256))) = true))) <| allP_nil) (by kernel_rfl) (by kernel_rfl)

/-! ### F88: function 88 tickertape/cell.MayAttr -/
def F88 (f : Nat) (a0 : cell_Attr) : Option (Bool) :=
  ifb ((decide (a0.Flags ≥ 0) && decide (a0.Flags ≤ 255))) (
    bnd (F123 f a0.Fg) fun r1 =>
    ifb (r1) (
      bnd (F123 f a0.Bg) fun r2 =>
      some (r2)) (
      some (false))) (
    some (false))
def v_F88 (a0 : cell_Attr) (y : Bool) : V :=
  .b y
def e_F88 (a0 : cell_Attr) (y : Bool) : Env :=
  [(2, ⟨none, .b y⟩)]
def x_F88 (a0 : cell_Attr) (y : Bool) : List (Option Blk) :=
  []
set_option maxRecDepth 100000 in
set_option maxHeartbeats 4000000 in
theorem F88_ok {f : Nat} {a0 : cell_Attr} {y : Bool} (h : F88 f a0 = some y) :
    Spec Tryz.prog G0 88 [.agg [.i .i64 a0.Flags, .i .i64 a0.Fg, .i .i64 a0.Bg]] [] (v_F88 a0 y) (x_F88 a0 y) :=
  Spec.ofM (fn := Tryz.f88) (c := bodyOf Tryz.f88) (n := 21) (rs := Tryz.f88.results.toList) Tryz.func88 (by kernel_rfl) (by kernel_rfl) (by kernel_rfl) (by kernel_rfl) fun cx => by
  unfold F88 at h
  rcases of_ifb h with ⟨h1, h⟩ | ⟨h1, h⟩
  · obtain ⟨r1, h2, h⟩ := of_bnd h
    rcases of_ifb h with ⟨h3, h⟩ | ⟨h3, h⟩
    · obtain ⟨r2, h4, h⟩ := of_bnd h
      replace h := Option.some.inj h
      subst h
      exact WM.retE mixed (e_F88 a0 (r2)) [R_ [.op (.fresh 0 (svB 3 [.i .i64 a0.Flags, .i .i64 a0.Fg, .i .i64 a0.Bg])), o_], R_ [o_, o_, o_, o_, o_, o_, o_, o_, o_, o_, o_, c_ (mkCall Tryz.call123 (F123_ok h2) [] (by kernel_rfl) (by kernel_rfl)), .pk true, o_, o_, o_, c_ (mkCall Tryz.call123 (F123_ok h4) [] (by kernel_rfl) (by kernel_rfl)), .pk true, o_]] [] (pc zlt1 <| pc ((fun h => h : (decide (a0.Flags ≥ 0) = true → decide (a0.Flags ≥ 0) = true))) <| pc ((fun _ => zlt1 : (decide (a0.Flags ≥ 0) = true → 0 < 1))) <| pc ((fun h => h : (decide (a0.Flags ≥ 0) = true → decide (a0.Flags ≥ 0) = true))) <| pc ((fun k2 => k2 : (decide (a0.Flags ≥ 0) = true → decide (a0.Flags ≥ 0) = true))) <| pc ((fun h => h : ((decide (a0.Flags ≥ 0) && decide (a0.Flags ≤ 255)) = true → (decide (a0.Flags ≥ 0) && decide (a0.Flags ≤ 255)) = true))) <| pc ((fun _ => zlt1 : ((decide (a0.Flags ≥ 0) && decide (a0.Flags ≤ 255)) = true → 0 < 1))) <| pc ((h1 : (decide (a0.Flags ≥ 0) && decide (a0.Flags ≤ 255)) = true)) <| pc ((h1 : (decide (a0.Flags ≥ 0) && decide (a0.Flags ≤ 255)) = true)) <| pc ((h1 : (decide (a0.Flags ≥ 0) && decide (a0.Flags ≤ 255)) = true)) <| pc ((fun h => h : (r1 = true → r1 = true))) <| pc ((fun _ => zlt1 : (r1 = true → 0 < 1))) <| pc ((h3 : r1 = true)) <| pc ((h3 : r1 = true)) <| pc ((h3 : r1 = true)) <| allP_nil) (by kernel_rfl) (by kernel_rfl)
    · replace h := Option.some.inj h
      subst h
      exact WM.retE mixed (e_F88 a0 (false)) [R_ [.op (.fresh 0 (svB 3 [.i .i64 a0.Flags, .i .i64 a0.Fg, .i .i64 a0.Bg])), o_], R_ [o_, o_, o_, o_, o_, o_, o_, o_, o_, o_, o_, c_ (mkCall Tryz.call123 (F123_ok h2) [] (by kernel_rfl) (by kernel_rfl)), .pk true, o_, o_, o_, s_, .pk false, o_]] [] (pc zlt1 <| pc ((fun h => h : (decide (a0.Flags ≥ 0) = true → decide (a0.Flags ≥ 0) = true))) <| pc ((fun _ => zlt1 : (decide (a0.Flags ≥ 0) = true → 0 < 1))) <| pc ((fun h => h : (decide (a0.Flags ≥ 0) = true → decide (a0.Flags ≥ 0) = true))) <| pc ((fun k2 => k2 : (decide (a0.Flags ≥ 0) = true → decide (a0.Flags ≥ 0) = true))) <| pc ((fun h => h : ((decide (a0.Flags ≥ 0) && decide (a0.Flags ≤ 255)) = true → (decide (a0.Flags ≥ 0) && decide (a0.Flags ≤ 255)) = true))) <| pc ((fun _ => zlt1 : ((decide (a0.Flags ≥ 0) && decide (a0.Flags ≤ 255)) = true → 0 < 1))) <| pc ((h1 : (decide (a0.Flags ≥ 0) && decide (a0.Flags ≤ 255)) = true)) <| pc ((h1 : (decide (a0.Flags ≥ 0) && decide (a0.Flags ≤ 255)) = true)) <| pc ((h1 : (decide (a0.Flags ≥ 0) && decide (a0.Flags ≤ 255)) = true)) <| pc ((fun h => h : (r1 = true → r1 = true))) <| pc ((fun _ => zlt1 : (r1 = true → 0 < 1))) <| pc ((h3 : r1 = false)) <| pc ((h3 : r1 = false)) <| allP_nil) (by kernel_rfl) (by kernel_rfl)
  · replace h := Option.some.inj h
    subst h
    exact WM.retE mixed (e_F88 a0 (false)) [R_ [.op (.fresh 0 (svB 3 [.i .i64 a0.Flags, .i .i64 a0.Fg, .i .i64 a0.Bg])), o_], R_ [o_, o_, o_, o_, o_, o_, o_, o_, o_, o_, o_, s_, .pk false, o_, s_, s_, s_, .pk false, o_]] [] (pc zlt1 <| pc ((fun h => h : (decide (a0.Flags ≥ 0) = true → decide (a0.Flags ≥ 0) = true))) <| pc ((fun _ => zlt1 : (decide (a0.Flags ≥ 0) = true → 0 < 1))) <| pc ((fun h => h : (decide (a0.Flags ≥ 0) = true → decide (a0.Flags ≥ 0) = true))) <| pc ((fun k2 => k2 : (decide (a0.Flags ≥ 0) = true → decide (a0.Flags ≥ 0) = true))) <| pc ((fun h => h : ((decide (a0.Flags ≥ 0) && decide (a0.Flags ≤ 255)) = true → (decide (a0.Flags ≥ 0) && decide (a0.Flags ≤ 255)) = true))) <| pc ((fun _ => zlt1 : ((decide (a0.Flags ≥ 0) && decide (a0.Flags ≤ 255)) = true → 0 < 1))) <| pc ((h1 : (decide (a0.Flags ≥ 0) && decide (a0.Flags ≤ 255)) = false)) <| pc ((h1 : (decide (a0.Flags ≥ 0) && decide (a0.Flags ≤ 255)) = false)) <| pc ((rfl : false = false)) <| pc ((rfl : false = false)) <| pc ((rfl : false = false)) <| pc ((rfl : false = false)) <| allP_nil) (by kernel_rfl) (by kernel_rfl)

/-! ### F102: function 102 tickertape/grid.fill -/
def F102_p1_b (f : Nat) (g1 : (List cell_Cell) → Int → Option (List cell_Cell)) (a0_n : Nat) (a0_o : Nat) (a1 : cell_Cell) (a0_1 : List cell_Cell) (x7_1 : Int) : Option (List cell_Cell) :=
  ifb (decide (x7_1 < ((a0_n : Nat) : Int))) (
    chk (0 ≤ x7_1) <|
    chk (x7_1 < ((a0_n : Nat) : Int)) <|
    chk ((a0_o + x7_1.toNat) < a0_1.length) <|
    chk (inR (x7_1 + 1)) <|
    g1 (a0_1.set (a0_o + x7_1.toNat) a1) (x7_1 + 1)) (
    some (a0_1))
def F102_p1 (f : Nat) (a0_n : Nat) (a0_o : Nat) (a1 : cell_Cell) : Nat → (List cell_Cell) → Int → Option (List cell_Cell)
  | 0, _, _ => none
  | j + 1, a0_1, x7_1 => F102_p1_b f (F102_p1 f a0_n a0_o a1 j) a0_n a0_o a1 a0_1 x7_1
def F102 (f : Nat) (a0_o : Nat) (a0_n : Nat) (a0 : List cell_Cell) (a1 : cell_Cell) : Option (List cell_Cell) :=
  F102_p1 f a0_n a0_o a1 f a0 0
def v_F102 (a0_o : Nat) (a0_n : Nat) (a0 : List cell_Cell) (a1 : cell_Cell) (y : List cell_Cell) : V :=
  .tup []
def e_F102 (a0_o : Nat) (a0_n : Nat) (a0 : List cell_Cell) (a1 : cell_Cell) (y : List cell_Cell) : Env :=
  []
def x_F102 (a0_o : Nat) (a0_n : Nat) (a0 : List cell_Cell) (a1 : cell_Cell) (y : List cell_Cell) : List (Option Blk) :=
  [some (blk_cell_Cell y)]
set_option maxRecDepth 100000 in
set_option maxHeartbeats 4000000 in
theorem F102_p1_bok {cx : Cx} {f : Nat} {I1 : Act → World → Prop} {g1 : (List cell_Cell) → Int → Option (List cell_Cell)} {a0_o : Nat} {a0_n : Nat} {a0 : List cell_Cell} {a1 : cell_Cell} {a0_1 : List cell_Cell} {x7_1 : Int} {y : List cell_Cell} (hg1 : ∀ (a0_1 : List cell_Cell) (x7_1 : Int), g1 a0_1 x7_1 = some y → ∀ a w, cx.In G0 15 1 [(0, ⟨none, .sl 0 a0_o a0_n⟩), (3, ⟨none, .p 1 0 0⟩), (6, ⟨none, .i .i64 ((a0_n : Nat) : Int)⟩), (7, ⟨none, .i .i64 x7_1⟩)] [some (blk_cell_Cell a0_1), some (svB 5 [.i .i32 a1.Rune, .i .i64 a1.Attr.Flags, .i .i64 a1.Attr.Fg, .i .i64 a1.Attr.Bg, .i .i64 a1.Wide])] a w → I1 a w) (h : F102_p1_b f g1 a0_n a0_o a1 a0_1 x7_1 = some y) :
    WM Tryz.prog G0 15 1 Tryz.f102.results.toList (v_F102 a0_o a0_n a0 a1 y) (x_F102 a0_o a0_n a0 a1 y) cx (nav [.r, .r, .l I1] [.code (bodyOf Tryz.f102)]) [(0, ⟨none, .sl 0 a0_o a0_n⟩), (3, ⟨none, .p 1 0 0⟩), (6, ⟨none, .i .i64 ((a0_n : Nat) : Int)⟩), (7, ⟨none, .i .i64 x7_1⟩)] [some (blk_cell_Cell a0_1), some (svB 5 [.i .i32 a1.Rune, .i .i64 a1.Attr.Flags, .i .i64 a1.Attr.Fg, .i .i64 a1.Attr.Bg, .i .i64 a1.Wide])] := by
  unfold F102_p1_b at h
  rcases of_ifb h with ⟨h1, h⟩ | ⟨h1, h⟩
  · obtain ⟨h2, h⟩ := of_chk h
    obtain ⟨h3, h⟩ := of_chk h
    obtain ⟨h4, h⟩ := of_chk h
    obtain ⟨h5, h⟩ := of_chk h
    exact WM.cut mixed [R_ [o_], T_, R_ [o_, o_], R_ [o_, o_, o_, o_, o_], R_ [o_, o_]] [some 0, some 1] (pc ((h1 : decide (x7_1 < ((a0_n : Nat) : Int)) = true)) <| pc zlt1 <| pc h2 <| pc h3 <| pc h4 <| pc h5 <| allP_nil) (WM.again (k := (nav [.r, .r, .n] [.code (bodyOf Tryz.f102)]).tail) (hg1 _ _ h)) (by kernel_rfl)
  · replace h := Option.some.inj h
    subst h
    exact WM.retE mixed (e_F102 a0_o a0_n a0 a1 (a0_1)) [R_ [o_], F_] [some 0] (pc ((h1 : decide (x7_1 < ((a0_n : Nat) : Int)) = false)) <| allP_nil) (by kernel_rfl) (by kernel_rfl)
set_option maxRecDepth 100000 in
set_option maxHeartbeats 4000000 in
theorem F102_p1_ok {cx : Cx} {f : Nat} {a0_o : Nat} {a0_n : Nat} {a0 : List cell_Cell} {a1 : cell_Cell} {a0_1 : List cell_Cell} {x7_1 : Int} {j : Nat} {y : List cell_Cell} (h : F102_p1 f a0_n a0_o a1 j a0_1 x7_1 = some y) :
    WM Tryz.prog G0 15 1 Tryz.f102.results.toList (v_F102 a0_o a0_n a0 a1 y) (x_F102 a0_o a0_n a0 a1 y) cx (nav [.r, .r, .n] [.code (bodyOf Tryz.f102)]) [(0, ⟨none, .sl 0 a0_o a0_n⟩), (3, ⟨none, .p 1 0 0⟩), (6, ⟨none, .i .i64 ((a0_n : Nat) : Int)⟩), (7, ⟨none, .i .i64 x7_1⟩)] [some (blk_cell_Cell a0_1), some (svB 5 [.i .i32 a1.Rune, .i .i64 a1.Attr.Flags, .i .i64 a1.Attr.Fg, .i .i64 a1.Attr.Bg, .i .i64 a1.Wide])] := by
  refine WM.loopN (X := List cell_Cell × Int) (y := y) (kb := fun I1 => (nav [.r, .r, .l I1] [.code (bodyOf Tryz.f102)])) (by intro I; kernel_rfl) (fun j x => F102_p1 f a0_n a0_o a1 j x.1 x.2) (fun x => [(0, ⟨none, .sl 0 a0_o a0_n⟩), (3, ⟨none, .p 1 0 0⟩), (6, ⟨none, .i .i64 ((a0_n : Nat) : Int)⟩), (7, ⟨none, .i .i64 x.2⟩)]) (fun x => [some (blk_cell_Cell x.1), some (svB 5 [.i .i32 a1.Rune, .i .i64 a1.Attr.Flags, .i .i64 a1.Attr.Fg, .i .i64 a1.Attr.Bg, .i .i64 a1.Wide])]) ?_ (j := j) (x := (a0_1, x7_1)) h
  intro j x I1 h hI
  cases j with
  | zero => cases h
  | succ j => exact F102_p1_bok (fun x0 x1 => hI j (x0, x1) (Nat.lt_succ_self j)) h
set_option maxRecDepth 100000 in
set_option maxHeartbeats 4000000 in
theorem F102_ok {f : Nat} {a0_o : Nat} {a0_n : Nat} {a0 : List cell_Cell} {a1 : cell_Cell} {y : List cell_Cell} (h : F102 f a0_o a0_n a0 a1 = some y) :
    Spec Tryz.prog G0 102 [.sl 0 a0_o a0_n, .agg [.i .i32 a1.Rune, .i .i64 a1.Attr.Flags, .i .i64 a1.Attr.Fg, .i .i64 a1.Attr.Bg, .i .i64 a1.Wide]] [some (blk_cell_Cell a0)] (v_F102 a0_o a0_n a0 a1 y) (x_F102 a0_o a0_n a0 a1 y) :=
  Spec.ofM (fn := Tryz.f102) (c := bodyOf Tryz.f102) (n := 15) (rs := Tryz.f102.results.toList) Tryz.func102 (by kernel_rfl) (by kernel_rfl) (by kernel_rfl) (by kernel_rfl) fun cx => by
  unfold F102 at h
  exact WM.cut mixed [R_ [.op (.fresh 1 (svB 5 [.i .i32 a1.Rune, .i .i64 a1.Attr.Flags, .i .i64 a1.Attr.Fg, .i .i64 a1.Attr.Bg, .i .i64 a1.Wide]))], R_ [o_, o_, o_]] [some 0, some 1] (allP_nil) (F102_p1_ok h) (by kernel_rfl)

/-! ### F106: function 106 (*tickertape/grid.Grid).Scroll -/
def F106 (f : Nat) (a0 : grid_GridO) (a1 : Int) (a2 : Int) (a3 : Int) (a4 : cell_Attr) : Option (grid_GridO) :=
  bnd (F100 f a0 a1 0) fun r1 =>
  ifb ((!(!r1))) (
    bnd (F100 f a0 a2 0) fun r2 =>
    ifb ((!((!r2) || decide (a1 > a2)))) (
      bnd (F88 f a4) fun r3 =>
      ifb ((!r3)) (
        some (a0)) (
        chk (inR (a2 + 1)) <|
        chk (0 ≤ (wr (a1 * a0.cols))) <|
        chk ((wr (a1 * a0.cols)) ≤ (wr ((a2 + 1) * a0.cols))) <|
        chk ((wr ((a2 + 1) * a0.cols)) ≤ ((a0.l_n : Nat) : Int)) <|
        chk (inR (a1 - a2)) <|
        chk (inR ((a1 - a2) - 1)) <|
        chk (inR ((a2 + 1) - a1)) <|
        ifb (decide ((wr ((imin (imax a3 ((a1 - a2) - 1)) ((a2 + 1) - a1)) * a0.cols)) > 0)) (
          chk (0 ≤ (wr ((imin (imax a3 ((a1 - a2) - 1)) ((a2 + 1) - a1)) * a0.cols))) <|
          chk ((wr ((imin (imax a3 ((a1 - a2) - 1)) ((a2 + 1) - a1)) * a0.cols)) ≤ (((((wr ((a2 + 1) * a0.cols))).toNat - ((wr (a1 * a0.cols))).toNat) : Nat) : Int)) <|
          chk (((0 + ((wr (a1 * a0.cols))).toNat) + (((wr ((a2 + 1) * a0.cols))).toNat - ((wr (a1 * a0.cols))).toNat)) ≤ a0.l.length) <|
          chk ((((0 + ((wr (a1 * a0.cols))).toNat) + ((wr ((imin (imax a3 ((a1 - a2) - 1)) ((a2 + 1) - a1)) * a0.cols))).toNat) + ((((wr ((a2 + 1) * a0.cols))).toNat - ((wr (a1 * a0.cols))).toNat) - ((wr ((imin (imax a3 ((a1 - a2) - 1)) ((a2 + 1) - a1)) * a0.cols))).toNat)) ≤ a0.l.length) <|
          chk (inR ((((((wr ((a2 + 1) * a0.cols))).toNat - ((wr (a1 * a0.cols))).toNat) : Nat) : Int) - (wr ((imin (imax a3 ((a1 - a2) - 1)) ((a2 + 1) - a1)) * a0.cols)))) <|
          chk (0 ≤ ((((((wr ((a2 + 1) * a0.cols))).toNat - ((wr (a1 * a0.cols))).toNat) : Nat) : Int) - (wr ((imin (imax a3 ((a1 - a2) - 1)) ((a2 + 1) - a1)) * a0.cols)))) <|
          chk (((((((wr ((a2 + 1) * a0.cols))).toNat - ((wr (a1 * a0.cols))).toNat) : Nat) : Int) - (wr ((imin (imax a3 ((a1 - a2) - 1)) ((a2 + 1) - a1)) * a0.cols))) ≤ (((((wr ((a2 + 1) * a0.cols))).toNat - ((wr (a1 * a0.cols))).toNat) : Nat) : Int)) <|
          bnd (F13 f a4) fun r4 =>
          bnd (F102 f ((0 + ((wr (a1 * a0.cols))).toNat) + (((((((wr ((a2 + 1) * a0.cols))).toNat - ((wr (a1 * a0.cols))).toNat) : Nat) : Int) - (wr ((imin (imax a3 ((a1 - a2) - 1)) ((a2 + 1) - a1)) * a0.cols)))).toNat) ((((wr ((a2 + 1) * a0.cols))).toNat - ((wr (a1 * a0.cols))).toNat) - (((((((wr ((a2 + 1) * a0.cols))).toNat - ((wr (a1 * a0.cols))).toNat) : Nat) : Int) - (wr ((imin (imax a3 ((a1 - a2) - 1)) ((a2 + 1) - a1)) * a0.cols)))).toNat) (putAt a0.l (0 + ((wr (a1 * a0.cols))).toNat) ((((a0.l.drop ((0 + ((wr (a1 * a0.cols))).toNat) + ((wr ((imin (imax a3 ((a1 - a2) - 1)) ((a2 + 1) - a1)) * a0.cols))).toNat)).take ((((wr ((a2 + 1) * a0.cols))).toNat - ((wr (a1 * a0.cols))).toNat) - ((wr ((imin (imax a3 ((a1 - a2) - 1)) ((a2 + 1) - a1)) * a0.cols))).toNat)).take (Nat.min ((((a0.l.drop ((0 + ((wr (a1 * a0.cols))).toNat) + ((wr ((imin (imax a3 ((a1 - a2) - 1)) ((a2 + 1) - a1)) * a0.cols))).toNat)).take ((((wr ((a2 + 1) * a0.cols))).toNat - ((wr (a1 * a0.cols))).toNat) - ((wr ((imin (imax a3 ((a1 - a2) - 1)) ((a2 + 1) - a1)) * a0.cols))).toNat))).length) (((wr ((a2 + 1) * a0.cols))).toNat - ((wr (a1 * a0.cols))).toNat))).map fun y => y)) r4) fun r5 =>
          some (({ a0 with l := r5 } : grid_GridO))) (
          chk (inR (0 - (wr ((imin (imax a3 ((a1 - a2) - 1)) ((a2 + 1) - a1)) * a0.cols)))) <|
          chk (0 ≤ (0 - (wr ((imin (imax a3 ((a1 - a2) - 1)) ((a2 + 1) - a1)) * a0.cols)))) <|
          chk ((0 - (wr ((imin (imax a3 ((a1 - a2) - 1)) ((a2 + 1) - a1)) * a0.cols))) ≤ (((((wr ((a2 + 1) * a0.cols))).toNat - ((wr (a1 * a0.cols))).toNat) : Nat) : Int)) <|
          chk ((((0 + ((wr (a1 * a0.cols))).toNat) + ((0 - (wr ((imin (imax a3 ((a1 - a2) - 1)) ((a2 + 1) - a1)) * a0.cols)))).toNat) + ((((wr ((a2 + 1) * a0.cols))).toNat - ((wr (a1 * a0.cols))).toNat) - ((0 - (wr ((imin (imax a3 ((a1 - a2) - 1)) ((a2 + 1) - a1)) * a0.cols)))).toNat)) ≤ a0.l.length) <|
          chk (((0 + ((wr (a1 * a0.cols))).toNat) + (((wr ((a2 + 1) * a0.cols))).toNat - ((wr (a1 * a0.cols))).toNat)) ≤ a0.l.length) <|
          bnd (F13 f a4) fun r6 =>
          bnd (F102 f ((0 + ((wr (a1 * a0.cols))).toNat) + 0) (((0 - (wr ((imin (imax a3 ((a1 - a2) - 1)) ((a2 + 1) - a1)) * a0.cols)))).toNat - 0) (putAt a0.l ((0 + ((wr (a1 * a0.cols))).toNat) + ((0 - (wr ((imin (imax a3 ((a1 - a2) - 1)) ((a2 + 1) - a1)) * a0.cols)))).toNat) ((((a0.l.drop (0 + ((wr (a1 * a0.cols))).toNat)).take (((wr ((a2 + 1) * a0.cols))).toNat - ((wr (a1 * a0.cols))).toNat)).take (Nat.min ((((a0.l.drop (0 + ((wr (a1 * a0.cols))).toNat)).take (((wr ((a2 + 1) * a0.cols))).toNat - ((wr (a1 * a0.cols))).toNat))).length) ((((wr ((a2 + 1) * a0.cols))).toNat - ((wr (a1 * a0.cols))).toNat) - ((0 - (wr ((imin (imax a3 ((a1 - a2) - 1)) ((a2 + 1) - a1)) * a0.cols)))).toNat))).map fun y => y)) r6) fun r7 =>
          some (({ a0 with l := r7 } : grid_GridO))))) (
      some (a0))) (
    some (a0))
def v_F106 (a0 : grid_GridO) (a1 : Int) (a2 : Int) (a3 : Int) (a4 : cell_Attr) (y : grid_GridO) : V :=
  .tup []
def e_F106 (a0 : grid_GridO) (a1 : Int) (a2 : Int) (a3 : Int) (a4 : cell_Attr) (y : grid_GridO) : Env :=
  []
def x_F106 (a0 : grid_GridO) (a1 : Int) (a2 : Int) (a3 : Int) (a4 : cell_Attr) (y : grid_GridO) : List (Option Blk) :=
  [some (B_grid_GridO 1 y), some (blk_cell_Cell y.l)]
set_option maxRecDepth 100000 in
set_option maxHeartbeats 4000000 in
theorem F106_ok {f : Nat} {a0 : grid_GridO} {a1 : Int} {a2 : Int} {a3 : Int} {a4 : cell_Attr} {y : grid_GridO} (h : F106 f a0 a1 a2 a3 a4 = some y) :
    Spec Tryz.prog G0 106 [.p 0 0 0, .i .i64 a1, .i .i64 a2, .i .i64 a3, .agg [.i .i64 a4.Flags, .i .i64 a4.Fg, .i .i64 a4.Bg]] [some (B_grid_GridO 1 a0), some (blk_cell_Cell a0.l)] (v_F106 a0 a1 a2 a3 a4 y) (x_F106 a0 a1 a2 a3 a4 y) :=
  Spec.ofM (fn := Tryz.f106) (c := bodyOf Tryz.f106) (n := 94) (rs := Tryz.f106.results.toList) Tryz.func106 (by kernel_rfl) (by kernel_rfl) (by kernel_rfl) (by kernel_rfl) fun cx => by
  unfold F106 at h
  obtain ⟨r1, h1, h⟩ := of_bnd h
  rcases of_ifb h with ⟨h2, h⟩ | ⟨h2, h⟩
  · obtain ⟨r2, h3, h⟩ := of_bnd h
    rcases of_ifb h with ⟨h4, h⟩ | ⟨h4, h⟩
    · obtain ⟨r3, h5, h⟩ := of_bnd h
      rcases of_ifb h with ⟨h6, h⟩ | ⟨h6, h⟩
      · replace h := Option.some.inj h
        subst h
        exact WM.retE mixed (e_F106 a0 a1 a2 a3 a4 (a0)) [R_ [.op (.fresh 2 (svB 3 [.i .i64 a4.Flags, .i .i64 a4.Fg, .i .i64 a4.Bg]))], R_ [o_, o_, c_ (mkCall Tryz.call100 (F100_ok h1) [0, 1] (by kernel_rfl) (by kernel_rfl)), o_, o_, o_, o_, c_ (mkCall Tryz.call100 (F100_ok h3) [0, 1] (by kernel_rfl) (by kernel_rfl)), m_, .pk false, o_, o_, o_, o_, o_, o_, o_, c_ (mkCall Tryz.call88 (F88_ok h5) [] (by kernel_rfl) (by kernel_rfl)), m_, .pk false], T_] [some 0, some 1] (pc ((h2 : (!(!r1)) = true)) <| pc ((h2 : (!(!r1)) = true)) <| pc ((h2 : (!(!r1)) = true)) <| pc ((h2 : (!(!r1)) = true)) <| pc (((nt_of h2) : (!r1) = false)) <| pc ((fun h => h : ((!(!r2)) = true → (!(!r2)) = true))) <| pc ((fun h => h : ((!(!r2)) = true → (!(!r2)) = true))) <| pc ((fun k2 => (not_t k2) : ((!r2) = false → (!(!r2)) = true))) <| pc ((fun _ => zlt1 : ((!((!r2) || decide (a1 > a2))) = true → 0 < 1))) <| pc ((h4 : (!((!r2) || decide (a1 > a2))) = true)) <| pc ((h4 : (!((!r2) || decide (a1 > a2))) = true)) <| pc ((h4 : (!((!r2) || decide (a1 > a2))) = true)) <| pc (((nt_of h4) : ((!r2) || decide (a1 > a2)) = false)) <| pc ((h6 : (!r3) = true)) <| allP_nil) (by kernel_rfl) (by kernel_rfl)
      · obtain ⟨h7, h⟩ := of_chk h
        obtain ⟨h8, h⟩ := of_chk h
        obtain ⟨h9, h⟩ := of_chk h
        obtain ⟨h10, h⟩ := of_chk h
        obtain ⟨h11, h⟩ := of_chk h
        obtain ⟨h12, h⟩ := of_chk h
        obtain ⟨h13, h⟩ := of_chk h
        rcases of_ifb h with ⟨h14, h⟩ | ⟨h14, h⟩
        · obtain ⟨h15, h⟩ := of_chk h
          obtain ⟨h16, h⟩ := of_chk h
          obtain ⟨h17, h⟩ := of_chk h
          obtain ⟨h18, h⟩ := of_chk h
          obtain ⟨h19, h⟩ := of_chk h
          obtain ⟨h20, h⟩ := of_chk h
          obtain ⟨h21, h⟩ := of_chk h
          obtain ⟨r4, h22, h⟩ := of_bnd h
          obtain ⟨r5, h23, h⟩ := of_bnd h
          replace h := Option.some.inj h
          subst h
          exact WM.retE mixed (e_F106 a0 a1 a2 a3 a4 (({ a0 with l := r5 } : grid_GridO))) [R_ [.op (.fresh 2 (svB 3 [.i .i64 a4.Flags, .i .i64 a4.Fg, .i .i64 a4.Bg]))], R_ [o_, o_, c_ (mkCall Tryz.call100 (F100_ok h1) [0, 1] (by kernel_rfl) (by kernel_rfl)), o_, o_, o_, o_, c_ (mkCall Tryz.call100 (F100_ok h3) [0, 1] (by kernel_rfl) (by kernel_rfl)), m_, .pk false, o_, o_, o_, o_, o_, o_, o_, c_ (mkCall Tryz.call88 (F88_ok h5) [] (by kernel_rfl) (by kernel_rfl)), m_, .pk false], F_, R_ [o_, o_, o_, o_, o_, o_, o_, o_, o_, o_, o_, o_, o_, o_, o_, o_, o_, o_, o_], R_ [o_, o_, o_, o_, o_, o_, o_, o_, o_, o_, o_, o_, o_, o_, o_, o_, o_], R_ [o_, o_], T_, R_ [o_, o_, o_, o_, o_], R_ [o_, o_, o_, o_, o_, o_, o_, c_ (mkCall Tryz.call13 (F13_ok h22) [3] (by kernel_rfl) (by kernel_rfl)), c_ (mkCall Tryz.call102 (F102_ok h23) [1] (by kernel_rfl) (by kernel_rfl))]] [some 0, some 1] (pc ((h2 : (!(!r1)) = true)) <| pc ((h2 : (!(!r1)) = true)) <| pc ((h2 : (!(!r1)) = true)) <| pc ((h2 : (!(!r1)) = true)) <| pc (((nt_of h2) : (!r1) = false)) <| pc ((fun h => h : ((!(!r2)) = true → (!(!r2)) = true))) <| pc ((fun h => h : ((!(!r2)) = true → (!(!r2)) = true))) <| pc ((fun k2 => (not_t k2) : ((!r2) = false → (!(!r2)) = true))) <| pc ((fun _ => zlt1 : ((!((!r2) || decide (a1 > a2))) = true → 0 < 1))) <| pc ((h4 : (!((!r2) || decide (a1 > a2))) = true)) <| pc ((h4 : (!((!r2) || decide (a1 > a2))) = true)) <| pc ((h4 : (!((!r2) || decide (a1 > a2))) = true)) <| pc (((nt_of h4) : ((!r2) || decide (a1 > a2)) = false)) <| pc ((h6 : (!r3) = false)) <| pc zlt1 <| pc zlt1 <| pc h7 <| pc zlt1 <| pc h8 <| pc h9 <| pc h10 <| pc h11 <| pc h12 <| pc h7 <| pc h13 <| pc zlt1 <| pc ((h14 : decide ((wr ((imin (imax a3 ((a1 - a2) - 1)) ((a2 + 1) - a1)) * a0.cols)) > 0) = true)) <| pc h15 <| pc h16 <| pc h17 <| pc h18 <| pc h19 <| pc h20 <| pc h21 <| pc zlt1 <| allP_nil) (by kernel_rfl) (by kernel_rfl)
        · obtain ⟨h24, h⟩ := of_chk h
          obtain ⟨h25, h⟩ := of_chk h
          obtain ⟨h26, h⟩ := of_chk h
          obtain ⟨h27, h⟩ := of_chk h
          obtain ⟨h28, h⟩ := of_chk h
          obtain ⟨r6, h29, h⟩ := of_bnd h
          obtain ⟨r7, h30, h⟩ := of_bnd h
          replace h := Option.some.inj h
          subst h
          exact WM.retE mixed (e_F106 a0 a1 a2 a3 a4 (({ a0 with l := r7 } : grid_GridO))) [R_ [.op (.fresh 2 (svB 3 [.i .i64 a4.Flags, .i .i64 a4.Fg, .i .i64 a4.Bg]))], R_ [o_, o_, c_ (mkCall Tryz.call100 (F100_ok h1) [0, 1] (by kernel_rfl) (by kernel_rfl)), o_, o_, o_, o_, c_ (mkCall Tryz.call100 (F100_ok h3) [0, 1] (by kernel_rfl) (by kernel_rfl)), m_, .pk false, o_, o_, o_, o_, o_, o_, o_, c_ (mkCall Tryz.call88 (F88_ok h5) [] (by kernel_rfl) (by kernel_rfl)), m_, .pk false], F_, R_ [o_, o_, o_, o_, o_, o_, o_, o_, o_, o_, o_, o_, o_, o_, o_, o_, o_, o_, o_], R_ [o_, o_, o_, o_, o_, o_, o_, o_, o_, o_, o_, o_, o_, o_, o_, o_, o_], R_ [o_, o_], F_, R_ [o_, o_, o_, o_, o_, o_], R_ [o_, o_, o_, o_, o_, c_ (mkCall Tryz.call13 (F13_ok h29) [3] (by kernel_rfl) (by kernel_rfl)), c_ (mkCall Tryz.call102 (F102_ok h30) [1] (by kernel_rfl) (by kernel_rfl))]] [some 0, some 1] (pc ((h2 : (!(!r1)) = true)) <| pc ((h2 : (!(!r1)) = true)) <| pc ((h2 : (!(!r1)) = true)) <| pc ((h2 : (!(!r1)) = true)) <| pc (((nt_of h2) : (!r1) = false)) <| pc ((fun h => h : ((!(!r2)) = true → (!(!r2)) = true))) <| pc ((fun h => h : ((!(!r2)) = true → (!(!r2)) = true))) <| pc ((fun k2 => (not_t k2) : ((!r2) = false → (!(!r2)) = true))) <| pc ((fun _ => zlt1 : ((!((!r2) || decide (a1 > a2))) = true → 0 < 1))) <| pc ((h4 : (!((!r2) || decide (a1 > a2))) = true)) <| pc ((h4 : (!((!r2) || decide (a1 > a2))) = true)) <| pc ((h4 : (!((!r2) || decide (a1 > a2))) = true)) <| pc (((nt_of h4) : ((!r2) || decide (a1 > a2)) = false)) <| pc ((h6 : (!r3) = false)) <| pc zlt1 <| pc zlt1 <| pc h7 <| pc zlt1 <| pc h8 <| pc h9 <| pc h10 <| pc h11 <| pc h12 <| pc h7 <| pc h13 <| pc zlt1 <| pc ((h14 : decide ((wr ((imin (imax a3 ((a1 - a2) - 1)) ((a2 + 1) - a1)) * a0.cols)) > 0) = false)) <| pc h24 <| pc h25 <| pc h26 <| pc h27 <| pc h28 <| pc h24 <| pc h25 <| pc h26 <| pc zlt1 <| allP_nil) (by kernel_rfl) (by kernel_rfl)
    · replace h := Option.some.inj h
      subst h
      exact WM.retE mixed (e_F106 a0 a1 a2 a3 a4 (a0)) [R_ [.op (.fresh 2 (svB 3 [.i .i64 a4.Flags, .i .i64 a4.Fg, .i .i64 a4.Bg]))], R_ [o_, o_, c_ (mkCall Tryz.call100 (F100_ok h1) [0, 1] (by kernel_rfl) (by kernel_rfl)), o_, o_, o_, o_, c_ (mkCall Tryz.call100 (F100_ok h3) [0, 1] (by kernel_rfl) (by kernel_rfl)), m_, .pk false, o_, o_, o_, o_, o_, o_, o_, s_, s_, .pk true], T_] [some 0, some 1] (pc ((h2 : (!(!r1)) = true)) <| pc ((h2 : (!(!r1)) = true)) <| pc ((h2 : (!(!r1)) = true)) <| pc ((h2 : (!(!r1)) = true)) <| pc (((nt_of h2) : (!r1) = false)) <| pc ((fun h => h : ((!(!r2)) = true → (!(!r2)) = true))) <| pc ((fun h => h : ((!(!r2)) = true → (!(!r2)) = true))) <| pc ((fun k2 => (not_t k2) : ((!r2) = false → (!(!r2)) = true))) <| pc ((fun _ => zlt1 : ((!((!r2) || decide (a1 > a2))) = true → 0 < 1))) <| pc ((h4 : (!((!r2) || decide (a1 > a2))) = false)) <| pc ((h4 : (!((!r2) || decide (a1 > a2))) = false)) <| pc (((nf_of h4) : ((!r2) || decide (a1 > a2)) = true)) <| pc ((rfl : true = true)) <| allP_nil) (by kernel_rfl) (by kernel_rfl)
  · replace h := Option.some.inj h
    subst h
    exact WM.retE mixed (e_F106 a0 a1 a2 a3 a4 (a0)) [R_ [.op (.fresh 2 (svB 3 [.i .i64 a4.Flags, .i .i64 a4.Fg, .i .i64 a4.Bg]))], R_ [o_, o_, c_ (mkCall Tryz.call100 (F100_ok h1) [0, 1] (by kernel_rfl) (by kernel_rfl)), o_, o_, o_, o_, s_, s_, .pk true, o_, s_, s_, s_, .pk true, o_, s_, s_, s_, .pk true], T_] [some 0, some 1] (pc ((h2 : (!(!r1)) = false)) <| pc ((h2 : (!(!r1)) = false)) <| pc (((nf_of h2) : (!r1) = true)) <| pc ((rfl : false = false)) <| pc ((rfl : false = false)) <| pc ((rfl : false = false)) <| pc ((rfl : true = true)) <| pc ((rfl : false = false)) <| pc ((rfl : false = false)) <| pc ((rfl : false = false)) <| pc ((rfl : true = true)) <| pc ((rfl : true = true)) <| allP_nil) (by kernel_rfl) (by kernel_rfl)

/-! ### F104: function 104 tickertape/term.held -/
def F104 (f : Nat) (a0 : Int) (a1 : Int) (a2 : Int) : Option (Int) :=
  some ((imin (imax a0 a1) a2))
def v_F104 (a0 : Int) (a1 : Int) (a2 : Int) (y : Int) : V :=
  .i .i64 y
def e_F104 (a0 : Int) (a1 : Int) (a2 : Int) (y : Int) : Env :=
  [(6, ⟨none, .i .i64 y⟩)]
def x_F104 (a0 : Int) (a1 : Int) (a2 : Int) (y : Int) : List (Option Blk) :=
  []
set_option maxRecDepth 100000 in
set_option maxHeartbeats 4000000 in
theorem F104_ok {f : Nat} {a0 : Int} {a1 : Int} {a2 : Int} {y : Int} (h : F104 f a0 a1 a2 = some y) :
    Spec Tryz.prog G0 104 [.i .i64 a0, .i .i64 a1, .i .i64 a2] [] (v_F104 a0 a1 a2 y) (x_F104 a0 a1 a2 y) :=
  Spec.ofM (fn := Tryz.f104) (c := bodyOf Tryz.f104) (n := 12) (rs := Tryz.f104.results.toList) Tryz.func104 (by kernel_rfl) (by kernel_rfl) (by kernel_rfl) (by kernel_rfl) fun cx => by
  unfold F104 at h
  replace h := Option.some.inj h
  subst h
  exact WM.retE mixed (e_F104 a0 a1 a2 ((imin (imax a0 a1) a2))) [R_ [o_], R_ [o_, o_, o_, o_, o_, o_]] [] (allP_nil) (by kernel_rfl) (by kernel_rfl)

/-! ### F74: function 74 (*tickertape/term.Term).at -/
def F74 (f : Nat) (a0 : term_TermO_2) (a1 : Int) (a2 : Int) : Option (term_TermO_2) :=
  chk (inR (a0.rows - 1)) <|
  bnd (F104 f a1 0 (a0.rows - 1)) fun r1 =>
  chk (inR (a0.cols - 1)) <|
  bnd (F104 f a2 0 (a0.cols - 1)) fun r2 =>
  some (({ a0 with kept := ({ a0.kept with cursor := (term_cursor.mk r1 r2 false) } : term_kept) } : term_TermO_2))
def v_F74 (a0 : term_TermO_2) (a1 : Int) (a2 : Int) (y : term_TermO_2) : V :=
  .tup []
def e_F74 (a0 : term_TermO_2) (a1 : Int) (a2 : Int) (y : term_TermO_2) : Env :=
  []
def x_F74 (a0 : term_TermO_2) (a1 : Int) (a2 : Int) (y : term_TermO_2) : List (Option Blk) :=
  [some (B_term_TermO_2 1 3 5 7 9 13 y), some (B_grid_GridO 2 y.grids_0), some (blk_cell_Cell y.grids_0.l), some (B_grid_GridO 4 y.grids_1), some (blk_cell_Cell y.grids_1.l), some (B_tabs_StopsO_1 6 y.stops), some (boolB y.stops.at_), some (B_utf_DecoderO 8 y.signs), some (intB .u8 y.signs.b), some (B_esc_ParserO 10 11 12 y.asks), some (intB .i64 y.asks.params), some (intB .i32 y.asks.text), some (blk_esc_Event y.asks.out), some (intB .u8 y.reply)]
set_option maxRecDepth 100000 in
set_option maxHeartbeats 4000000 in
theorem F74_ok {f : Nat} {a0 : term_TermO_2} {a1 : Int} {a2 : Int} {y : term_TermO_2} (h : F74 f a0 a1 a2 = some y) :
    Spec Tryz.prog G0 74 [.p 0 0 0, .i .i64 a1, .i .i64 a2] [some (B_term_TermO_2 1 3 5 7 9 13 a0), some (B_grid_GridO 2 a0.grids_0), some (blk_cell_Cell a0.grids_0.l), some (B_grid_GridO 4 a0.grids_1), some (blk_cell_Cell a0.grids_1.l), some (B_tabs_StopsO_1 6 a0.stops), some (boolB a0.stops.at_), some (B_utf_DecoderO 8 a0.signs), some (intB .u8 a0.signs.b), some (B_esc_ParserO 10 11 12 a0.asks), some (intB .i64 a0.asks.params), some (intB .i32 a0.asks.text), some (blk_esc_Event a0.asks.out), some (intB .u8 a0.reply)] (v_F74 a0 a1 a2 y) (x_F74 a0 a1 a2 y) :=
  Spec.ofM (fn := Tryz.f74) (c := bodyOf Tryz.f74) (n := 26) (rs := Tryz.f74.results.toList) Tryz.func74 (by kernel_rfl) (by kernel_rfl) (by kernel_rfl) (by kernel_rfl) fun cx => by
  unfold F74 at h
  obtain ⟨h1, h⟩ := of_chk h
  obtain ⟨r1, h2, h⟩ := of_bnd h
  obtain ⟨h3, h⟩ := of_chk h
  obtain ⟨r2, h4, h⟩ := of_bnd h
  replace h := Option.some.inj h
  subst h
  exact WM.retE mixed (e_F74 a0 a1 a2 (({ a0 with kept := ({ a0.kept with cursor := (term_cursor.mk r1 r2 false) } : term_kept) } : term_TermO_2))) [R_ [o_, o_, o_, o_, o_, o_, o_, c_ (mkCall Tryz.call104 (F104_ok h2) [] (by kernel_rfl) (by kernel_rfl)), o_, o_, o_, o_, o_, o_, c_ (mkCall Tryz.call104 (F104_ok h4) [] (by kernel_rfl) (by kernel_rfl)), o_, o_, o_, o_, o_, o_]] [some 0, some 1, some 2, some 3, some 4, some 5, some 6, some 7, some 8, some 9, some 10, some 11, some 12, some 13] (pc zlt1 <| pc h1 <| pc zlt1 <| pc h3 <| pc zlt1 <| allP_nil) (by kernel_rfl) (by kernel_rfl)

/-! ### F76: function 76 (*tickertape/term.Term).index -/
def F76 (f : Nat) (a0 : term_TermO_2) : Option (term_TermO_2) :=
  ifb (decide (a0.kept.cursor.row = a0.bottom)) (
    bnd (F28 f a0) fun r1 =>
    sm r1 (fun r2 =>
      bnd (F106 f a0.grids_0 a0.top a0.bottom 1 a0.kept.pen) fun r4 =>
      bnd (F74 f ({ a0 with grids_0 := r4 } : term_TermO_2) a0.kept.cursor.row a0.kept.cursor.col) fun r5 =>
      some (r5)) (fun r3 =>
      bnd (F106 f a0.grids_1 a0.top a0.bottom 1 a0.kept.pen) fun r6 =>
      bnd (F74 f ({ a0 with grids_1 := r6 } : term_TermO_2) a0.kept.cursor.row a0.kept.cursor.col) fun r7 =>
      some (r7))) (
    chk (inR (a0.kept.cursor.row + 1)) <|
    bnd (F74 f a0 (a0.kept.cursor.row + 1) a0.kept.cursor.col) fun r8 =>
    some (r8))
def v_F76 (a0 : term_TermO_2) (y : term_TermO_2) : V :=
  .tup []
def e_F76 (a0 : term_TermO_2) (y : term_TermO_2) : Env :=
  []
def x_F76 (a0 : term_TermO_2) (y : term_TermO_2) : List (Option Blk) :=
  [some (B_term_TermO_2 1 3 5 7 9 13 y), some (B_grid_GridO 2 y.grids_0), some (blk_cell_Cell y.grids_0.l), some (B_grid_GridO 4 y.grids_1), some (blk_cell_Cell y.grids_1.l), some (B_tabs_StopsO_1 6 y.stops), some (boolB y.stops.at_), some (B_utf_DecoderO 8 y.signs), some (intB .u8 y.signs.b), some (B_esc_ParserO 10 11 12 y.asks), some (intB .i64 y.asks.params), some (intB .i32 y.asks.text), some (blk_esc_Event y.asks.out), some (intB .u8 y.reply)]
set_option maxRecDepth 100000 in
set_option maxHeartbeats 4000000 in
theorem F76_ok {f : Nat} {a0 : term_TermO_2} {y : term_TermO_2} (h : F76 f a0 = some y) :
    Spec Tryz.prog G0 76 [.p 0 0 0] [some (B_term_TermO_2 1 3 5 7 9 13 a0), some (B_grid_GridO 2 a0.grids_0), some (blk_cell_Cell a0.grids_0.l), some (B_grid_GridO 4 a0.grids_1), some (blk_cell_Cell a0.grids_1.l), some (B_tabs_StopsO_1 6 a0.stops), some (boolB a0.stops.at_), some (B_utf_DecoderO 8 a0.signs), some (intB .u8 a0.signs.b), some (B_esc_ParserO 10 11 12 a0.asks), some (intB .i64 a0.asks.params), some (intB .i32 a0.asks.text), some (blk_esc_Event a0.asks.out), some (intB .u8 a0.reply)] (v_F76 a0 y) (x_F76 a0 y) :=
  Spec.ofM (fn := Tryz.f76) (c := bodyOf Tryz.f76) (n := 67) (rs := Tryz.f76.results.toList) Tryz.func76 (by kernel_rfl) (by kernel_rfl) (by kernel_rfl) (by kernel_rfl) fun cx => by
  unfold F76 at h
  rcases of_ifb h with ⟨h1, h⟩ | ⟨h1, h⟩
  · obtain ⟨r1, h2, h⟩ := of_bnd h
    rcases of_sm h with ⟨r2, rfl, h⟩ | ⟨r3, rfl, h⟩
    · obtain ⟨r4, h3, h⟩ := of_bnd h
      obtain ⟨r5, h4, h⟩ := of_bnd h
      replace h := Option.some.inj h
      subst h
      exact WM.retE mixed (e_F76 a0 (r5)) [R_ [o_, o_, o_, o_, o_, o_, o_, o_, o_, o_, o_, o_, o_], T_, R_ [o_, c_ (mkCallT Tryz.call28 (F28_ok h2) [0, 1, 2, 3, 4, 5, 6, 7, 8, 9, 10, 11, 12, 13] [0, 1, 2, 3, 4, 5, 6, 7, 8, 9, 10, 11, 12, 13] (by kernel_rfl) (by kernel_rfl) (by kernel_rfl) (by kernel_rfl)), o_, o_, o_, o_, o_, o_, o_, o_, o_, o_, o_, o_, o_, o_, o_, o_, c_ (mkCall Tryz.call106 (F106_ok h3) [1, 2] (by kernel_rfl) (by kernel_rfl))], R_ [o_, o_, o_, o_, o_, o_, o_, o_, o_, o_, o_, o_, o_, o_, o_, c_ (mkCall Tryz.call74 (F74_ok h4) [0, 1, 2, 3, 4, 5, 6, 7, 8, 9, 10, 11, 12, 13] (by kernel_rfl) (by kernel_rfl))]] [some 0, some 1, some 2, some 3, some 4, some 5, some 6, some 7, some 8, some 9, some 10, some 11, some 12, some 13] (pc zlt1 <| pc zlt1 <| pc ((h1 : decide (a0.kept.cursor.row = a0.bottom) = true)) <| pc zlt1 <| pc zlt1 <| pc zlt1 <| pc zlt1 <| pc zlt1 <| allP_nil) (by kernel_rfl) (by kernel_rfl)
    · obtain ⟨r6, h5, h⟩ := of_bnd h
      obtain ⟨r7, h6, h⟩ := of_bnd h
      replace h := Option.some.inj h
      subst h
      exact WM.retE mixed (e_F76 a0 (r7)) [R_ [o_, o_, o_, o_, o_, o_, o_, o_, o_, o_, o_, o_, o_], T_, R_ [o_, c_ (mkCallT Tryz.call28 (F28_ok h2) [0, 1, 2, 3, 4, 5, 6, 7, 8, 9, 10, 11, 12, 13] [0, 1, 2, 3, 4, 5, 6, 7, 8, 9, 10, 11, 12, 13] (by kernel_rfl) (by kernel_rfl) (by kernel_rfl) (by kernel_rfl)), o_, o_, o_, o_, o_, o_, o_, o_, o_, o_, o_, o_, o_, o_, o_, o_, c_ (mkCall Tryz.call106 (F106_ok h5) [3, 4] (by kernel_rfl) (by kernel_rfl))], R_ [o_, o_, o_, o_, o_, o_, o_, o_, o_, o_, o_, o_, o_, o_, o_, c_ (mkCall Tryz.call74 (F74_ok h6) [0, 1, 2, 3, 4, 5, 6, 7, 8, 9, 10, 11, 12, 13] (by kernel_rfl) (by kernel_rfl))]] [some 0, some 1, some 2, some 3, some 4, some 5, some 6, some 7, some 8, some 9, some 10, some 11, some 12, some 13] (pc zlt1 <| pc zlt1 <| pc ((h1 : decide (a0.kept.cursor.row = a0.bottom) = true)) <| pc zlt1 <| pc zlt1 <| pc zlt1 <| pc zlt1 <| pc zlt1 <| allP_nil) (by kernel_rfl) (by kernel_rfl)
  · obtain ⟨h7, h⟩ := of_chk h
    obtain ⟨r8, h8, h⟩ := of_bnd h
    replace h := Option.some.inj h
    subst h
    exact WM.retE mixed (e_F76 a0 (r8)) [R_ [o_, o_, o_, o_, o_, o_, o_, o_, o_, o_, o_, o_, o_], F_, R_ [o_, o_, o_, o_, o_, o_, o_, o_, o_, o_, o_, o_, o_, o_, o_, o_, c_ (mkCall Tryz.call74 (F74_ok h8) [0, 1, 2, 3, 4, 5, 6, 7, 8, 9, 10, 11, 12, 13] (by kernel_rfl) (by kernel_rfl))]] [some 0, some 1, some 2, some 3, some 4, some 5, some 6, some 7, some 8, some 9, some 10, some 11, some 12, some 13] (pc zlt1 <| pc zlt1 <| pc ((h1 : decide (a0.kept.cursor.row = a0.bottom) = false)) <| pc zlt1 <| pc h7 <| pc zlt1 <| allP_nil) (by kernel_rfl) (by kernel_rfl)

/-! ### F71: function 71 (*tickertape/term.Term).wraps -/
def F71 (f : Nat) (a0 : term_TermO_2) : Option (term_TermO_2) :=
  bnd (F76 f ({ a0 with kept := ({ a0.kept with cursor := ({ a0.kept.cursor with col := 0 } : term_cursor) } : term_kept) } : term_TermO_2)) fun r1 =>
  some (r1)
def v_F71 (a0 : term_TermO_2) (y : term_TermO_2) : V :=
  .tup []
def e_F71 (a0 : term_TermO_2) (y : term_TermO_2) : Env :=
  []
def x_F71 (a0 : term_TermO_2) (y : term_TermO_2) : List (Option Blk) :=
  [some (B_term_TermO_2 1 3 5 7 9 13 y), some (B_grid_GridO 2 y.grids_0), some (blk_cell_Cell y.grids_0.l), some (B_grid_GridO 4 y.grids_1), some (blk_cell_Cell y.grids_1.l), some (B_tabs_StopsO_1 6 y.stops), some (boolB y.stops.at_), some (B_utf_DecoderO 8 y.signs), some (intB .u8 y.signs.b), some (B_esc_ParserO 10 11 12 y.asks), some (intB .i64 y.asks.params), some (intB .i32 y.asks.text), some (blk_esc_Event y.asks.out), some (intB .u8 y.reply)]
set_option maxRecDepth 100000 in
set_option maxHeartbeats 4000000 in
theorem F71_ok {f : Nat} {a0 : term_TermO_2} {y : term_TermO_2} (h : F71 f a0 = some y) :
    Spec Tryz.prog G0 71 [.p 0 0 0] [some (B_term_TermO_2 1 3 5 7 9 13 a0), some (B_grid_GridO 2 a0.grids_0), some (blk_cell_Cell a0.grids_0.l), some (B_grid_GridO 4 a0.grids_1), some (blk_cell_Cell a0.grids_1.l), some (B_tabs_StopsO_1 6 a0.stops), some (boolB a0.stops.at_), some (B_utf_DecoderO 8 a0.signs), some (intB .u8 a0.signs.b), some (B_esc_ParserO 10 11 12 a0.asks), some (intB .i64 a0.asks.params), some (intB .i32 a0.asks.text), some (blk_esc_Event a0.asks.out), some (intB .u8 a0.reply)] (v_F71 a0 y) (x_F71 a0 y) :=
  Spec.ofM (fn := Tryz.f71) (c := bodyOf Tryz.f71) (n := 10) (rs := Tryz.f71.results.toList) Tryz.func71 (by kernel_rfl) (by kernel_rfl) (by kernel_rfl) (by kernel_rfl) fun cx => by
  unfold F71 at h
  obtain ⟨r1, h1, h⟩ := of_bnd h
  replace h := Option.some.inj h
  subst h
  exact WM.retE mixed (e_F71 a0 (r1)) [R_ [o_, o_, o_, o_, o_, o_, o_], R_ [o_, c_ (mkCall Tryz.call76 (F76_ok h1) [0, 1, 2, 3, 4, 5, 6, 7, 8, 9, 10, 11, 12, 13] (by kernel_rfl) (by kernel_rfl))]] [some 0, some 1, some 2, some 3, some 4, some 5, some 6, some 7, some 8, some 9, some 10, some 11, some 12, some 13] (pc zlt1 <| allP_nil) (by kernel_rfl) (by kernel_rfl)

/-! ### F101: function 101 (*tickertape/grid.Grid).row -/
def F101 (f : Nat) (a0 : grid_GridO) (a1 : Int) : Option (Nat × Nat) :=
  chk (inR (a1 + 1)) <|
  chk (0 ≤ (wr (a1 * a0.cols))) <|
  chk ((wr (a1 * a0.cols)) ≤ (wr ((a1 + 1) * a0.cols))) <|
  chk ((wr ((a1 + 1) * a0.cols)) ≤ ((a0.l_n : Nat) : Int)) <|
  some (((0 + ((wr (a1 * a0.cols))).toNat), (((wr ((a1 + 1) * a0.cols))).toNat - ((wr (a1 * a0.cols))).toNat)))
def v_F101 (a0 : grid_GridO) (a1 : Int) (y : Nat × Nat) : V :=
  .sl 1 y.1 y.2
def e_F101 (a0 : grid_GridO) (a1 : Int) (y : Nat × Nat) : Env :=
  [(4, ⟨none, .sl 1 y.1 y.2⟩)]
def x_F101 (a0 : grid_GridO) (a1 : Int) (y : Nat × Nat) : List (Option Blk) :=
  [some (B_grid_GridO 1 a0), some (blk_cell_Cell a0.l)]
set_option maxRecDepth 100000 in
set_option maxHeartbeats 4000000 in
theorem F101_ok {f : Nat} {a0 : grid_GridO} {a1 : Int} {y : Nat × Nat} (h : F101 f a0 a1 = some y) :
    Spec Tryz.prog G0 101 [.p 0 0 0, .i .i64 a1] [some (B_grid_GridO 1 a0), some (blk_cell_Cell a0.l)] (v_F101 a0 a1 y) (x_F101 a0 a1 y) :=
  Spec.ofM (fn := Tryz.f101) (c := bodyOf Tryz.f101) (n := 23) (rs := Tryz.f101.results.toList) Tryz.func101 (by kernel_rfl) (by kernel_rfl) (by kernel_rfl) (by kernel_rfl) fun cx => by
  unfold F101 at h
  obtain ⟨h1, h⟩ := of_chk h
  obtain ⟨h2, h⟩ := of_chk h
  obtain ⟨h3, h⟩ := of_chk h
  obtain ⟨h4, h⟩ := of_chk h
  replace h := Option.some.inj h
  subst h
  exact WM.retE mixed (e_F101 a0 a1 (((0 + ((wr (a1 * a0.cols))).toNat), (((wr ((a1 + 1) * a0.cols))).toNat - ((wr (a1 * a0.cols))).toNat)))) [R_ [o_], R_ [o_, o_, o_, o_, o_, o_, o_, o_, o_, o_, o_, o_, o_, o_, o_, o_, o_, o_, o_]] [some 0, some 1] (pc zlt1 <| pc zlt1 <| pc h1 <| pc zlt1 <| pc h2 <| pc h3 <| pc h4 <| allP_nil) (by kernel_rfl) (by kernel_rfl)

/-! ### F47: function 47 slices.Clone[[]tickertape/cell.Cell,tickertape/cell.Cell] -/
def F47 (f : Nat) (a0_o : Nat) (a0_n : Nat) (a0 : List cell_Cell) : Option (Nat × List cell_Cell) :=
  chk (((((0 + (((a0.drop a0_o).take a0_n)).length)) * 40 : Nat) : Int) ≤ 140737488355328) <|
  chk ((a0_o + a0_n) ≤ a0.length) <|
  some (((0 + (((a0.drop a0_o).take a0_n)).length), ([] ++ (((a0.drop a0_o).take a0_n).map fun y => y))))
def v_F47 (a0_o : Nat) (a0_n : Nat) (a0 : List cell_Cell) (y : Nat × List cell_Cell) : V :=
  .sl 1 0 y.1
def e_F47 (a0_o : Nat) (a0_n : Nat) (a0 : List cell_Cell) (y : Nat × List cell_Cell) : Env :=
  [(2, ⟨none, .sl 1 0 y.1⟩)]
def x_F47 (a0_o : Nat) (a0_n : Nat) (a0 : List cell_Cell) (y : Nat × List cell_Cell) : List (Option Blk) :=
  [some (blk_cell_Cell a0), some (blk_cell_Cell y.2)]
set_option maxRecDepth 100000 in
set_option maxHeartbeats 4000000 in
theorem F47_ok {f : Nat} {a0_o : Nat} {a0_n : Nat} {a0 : List cell_Cell} {y : Nat × List cell_Cell} (h : F47 f a0_o a0_n a0 = some y) :
    Spec Tryz.prog G0 47 [.sl 0 a0_o a0_n] [some (blk_cell_Cell a0)] (v_F47 a0_o a0_n a0 y) (x_F47 a0_o a0_n a0 y) :=
  Spec.ofM (fn := Tryz.f47) (c := bodyOf Tryz.f47) (n := 8) (rs := Tryz.f47.results.toList) Tryz.func47 (by kernel_rfl) (by kernel_rfl) (by kernel_rfl) (by kernel_rfl) fun cx => by
  unfold F47 at h
  obtain ⟨h1, h⟩ := of_chk h
  obtain ⟨h2, h⟩ := of_chk h
  replace h := Option.some.inj h
  subst h
  refine WM.cut (E' := [(0, ⟨none, .sl 0 a0_o a0_n⟩)]) (hs' := [some (blk_cell_Cell a0)]) (k' := (nav [.r, .n] [.code (bodyOf Tryz.f47)])) mixed [R_ [o_]] [some 0] (allP_nil) ?_ (by kernel_rfl)
  refine WM.nilq (k := (nav [.r, .n] [.code (bodyOf Tryz.f47)]).tail) (c := hcode (nav [.r, .n] [.code (bodyOf Tryz.f47)])) (t0 := 0) (t3 := 3) (t4 := 4) (T := 29) (e := 38) (m := a0_n) (v := .sl 0 a0_o a0_n) (by kernel_rfl) (by kernel_rfl) (by kernel_rfl) (by kernel_rfl) (by kernel_rfl) ?_ ?_
  · intro hz
    obtain rfl : a0_n = 0 := hz
    exact WM.retE mixed (e_F47 a0_o 0 a0 (((0 + (((a0.drop a0_o).take 0)).length), ([] ++ (((a0.drop a0_o).take 0).map fun y => y))))) [T_, R_ [o_]] [some 0, none] (pc ((rfl : true = true)) <| allP_nil) (by kernel_rfl) (by kernel_rfl)
  · exact WM.retE mixed (e_F47 a0_o a0_n a0 (((0 + (((a0.drop a0_o).take a0_n)).length), ([] ++ (((a0.drop a0_o).take a0_n).map fun y => y))))) [F_, R_ [.op (.fresh 1 (blk_cell_Cell [])), o_, .op (.fresh 2 (intB .u8 [])), o_]] [some 0, some 2] (pc ((rfl : false = false)) <| pc ((by decide : 0 = 0)) <| pc h1 <| pc h2 <| allP_nil) (by kernel_rfl) (by kernel_rfl)
end Go.Proofs.YtiekchfipaiflaaGreatDoor
